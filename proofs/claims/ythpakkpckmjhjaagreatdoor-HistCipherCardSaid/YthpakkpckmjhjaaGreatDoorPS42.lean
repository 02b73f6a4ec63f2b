/- squeezed -/
import Derived.Test.YthpakkpckmjhjaaGreatDoorPS28
import Derived.Test.YthpakkpckmjhjaaGreatDoorPS2
import Derived.Test.YthpakkpckmjhjaaGreatDoorPAbsP

set_option linter.unusedVariables false
set_option linter.unusedSimpArgs false
set_option maxRecDepth 10000
namespace Go.Ab
open Go.Proofs Go.Num
inductive kfg
 | fn (x1 : List Nat) (x2 : List Nat)
 | p4 (x1 : List Nat) (x2 : List Nat)
abbrev kdt := List Nat × Int
noncomputable def kd3 (x1 : List Nat) (x2 : List Nat) : Option (kfg ⊕ kdt) :=
 cond (!(rt x1)) (some (.inr ([], 1))) (cond (!(rt x2)) (some (.inr ([], 1))) ((need (List.length x1 ≤ 8796093022208)).bind fun c7_0 => (need (List.length x2 ≤ 8796093022208)).bind fun c8_0 => some (.inl (.p4 x1 x2))))
noncomputable def kft (x1 : List Nat) (x2 : List Nat) : Option (kfg ⊕ kdt) :=
 cond (decide ((List.length x2 : Int) > 0)) (some (.inl (.p4 x2 ((divN x1 x2).2.1)))) (some (.inr (x1, 0)))
noncomputable def kny : kfg → Option (kfg ⊕ kdt)
 | .fn x1 x2 => kd3 x1 x2
 | .p4 x1 x2 => kft x1 x2
@[reducible] def kn6 (h0 : AH) (r : kdt) (v : AV) (h' : AH) : Prop := ∃ s1 : Sl, v = .tup [s1.v, .int .i64 r.2] ∧ Nats h' s1 r.1 ∧ Grow h0 h' ∧ Own h0 s1
def kjw (r : kdt) : kfg → Prop
 | .fn x1 x2 => ∀ {h : AH} {a1 : Sl} {a2 : Sl}, Nats h a1 x1 → Nats h a2 x2 → Runs (go (.fn F.kfi [a1.v, a2.v]) h) (kn6 h r)
 | .p4 x1 x2 => ∀ {h0 h : AH} {a1 : Sl} {a2 : Sl}, Grow h0 h → Nats h a1 x1 → Nats h a2 x2 → Own h0 a1 → Own h0 a2 → Runs (go (.pt F.kfi Td.kmn [(0, a1.v), (1, a2.v)]) h) (kn6 h0 r)
theorem k77 {r : kdt} {o : kfg ⊕ kdt} {x1 : List Nat} {x2 : List Nat} (e : kd3 x1 x2 = some o) (good : GoodS (kjw r) r o) : kjw r (.fn x1 x2) := by
 intro h a1 a2 n1 n2
 rw [kzh]
 unfold kd3 at e
 refine Runs.step (kfu n1) ?_
 refine Runs.step (seen rfl) ?_
 refine Runs.cond (fun k4 => ?_) (fun k4 => ?_)
 ·replace e := (condT k4).symm.trans e
  cases e
  cases good
  exact Runs.ret ⟨(⟨none, 0, .is 0⟩ : Sl), rfl, (Nats.nil _), (Grow.refl _), (Own.nil _)⟩
 ·replace e := (condF k4).symm.trans e
  refine Runs.step (kfu n2) ?_
  refine Runs.step (seen rfl) ?_
  refine Runs.cond (fun k6 => ?_) (fun k6 => ?_)
  ·replace e := (condT k6).symm.trans e
   cases e
   cases good
   exact Runs.ret ⟨(⟨none, 0, .is 0⟩ : Sl), rfl, (Nats.nil _), (Grow.refl _), (Own.nil _)⟩
  ·replace e := (condF k6).symm.trans e
   obtain ⟨c7_0, q7_0, e⟩ := Option.bind_eq_some_iff.1 e
   obtain ⟨s7, H7, e7, n7, g7, o7⟩ := kkm n1  c7_0.down
   refine Runs.step e7 ?_
   refine Runs.step (seen (asSl_v _)) ?_
   obtain ⟨c8_0, q8_0, e⟩ := Option.bind_eq_some_iff.1 e
   obtain ⟨s8, H8, e8, n8, g8, o8⟩ := kkm (n2.grow g7)  c8_0.down
   refine Runs.step e8 ?_
   refine Runs.step (seen (asSl_v _)) ?_
   cases e
   exact good (g7.trans g8) (n7.grow g8) n8 (o7.of_le (Grow.refl _)) (o8.of_le g7)
theorem k3x {r : kdt} {o : kfg ⊕ kdt} {x1 : List Nat} {x2 : List Nat} (e : kft x1 x2 = some o) (good : GoodS (kjw r) r o) : kjw r (.p4 x1 x2) := by
 intro h0 h a1 a2 g0 n1 n2 ow1 ow2
 rw [kbau]
 unfold kft at e
 rw [n2.len]
 refine Runs.cond (fun k3 => ?_) (fun k3 => ?_)
 ·replace e := (condT k3).symm.trans e
  obtain ⟨s4, s4b, H4, e4, n4, n4b, g4, o4, o4b⟩ := kvv n1 n2
  refine Runs.step e4 ?_
  refine Runs.step rfl ?_
  refine Runs.step (seen (asSl_v _)) ?_
  refine Runs.step (seen (asSl_v _)) ?_
  refine Runs.step (seen (kc _ _)) ?_
  cases e
  exact good (g0.trans g4) (n2.grow g4) n4b (ow2.of_le (Grow.refl _)) (o4b.of_le g0)
 ·replace e := (condF k3).symm.trans e
  cases e
  cases good
  exact Runs.ret ⟨a1, rfl, n1, g0, (ow1.of_le (Grow.refl _))⟩
theorem kxx {s : kfg} {r : kdt} (it : Iter kny s r) : kjw r s := Iter.ind (fun s o e good => by
 cases s with
 | fn x1 x2 => exact @k77 _ _ x1 x2 e good
 | p4 x1 x2 => exact @k3x _ _ x1 x2 e good
 ) it
inductive ke7
 | fn (x1 : List Nat) (x2 : List Nat)
 | p7 (x1 : List Nat) (x2 : List Nat)
abbrev kdi := List Nat × Int
noncomputable def keg (x1 : List Nat) (x2 : List Nat) : Option (ke7 ⊕ kdi) :=
 cond (!(rt x1)) (some (.inr ([], 1))) (cond (!(rt x2)) (some (.inr ([], 1))) ((need (List.length x1 ≤ 1073741824)).bind fun c8 => (need (List.length x2 ≤ 1073741824)).bind fun c10 => some (.inl (.p7 x1 x2))))
noncomputable def kgh (x1 : List Nat) (x2 : List Nat) : Option (ke7 ⊕ kdi) :=
 cond (decide ((List.length x2 : Int) > 0)) (some (.inl (.p7 x2 ((divN x1 x2).2.1)))) (some (.inr (x1, 0)))
noncomputable def koq : ke7 → Option (ke7 ⊕ kdi)
 | .fn x1 x2 => keg x1 x2
 | .p7 x1 x2 => kgh x1 x2
@[reducible] def kpo (h0 : AH) (r : kdi) (v : AV) (h' : AH) : Prop := ∃ s1 : Sl, v = .tup [s1.v, .int .i64 r.2] ∧ Nats h' s1 r.1 ∧ Grow h0 h' ∧ Own h0 s1
def kjn (r : kdi) : ke7 → Prop
 | .fn x1 x2 => ∀ {h : AH} {a1 : Sl} {a2 : Sl}, Nats h a1 x1 → Nats h a2 x2 → Runs (go (.fn F.ke0 [a1.v, a2.v]) h) (kpo h r)
 | .p7 x1 x2 => ∀ {h0 h : AH} {a1 : Sl} {a2 : Sl}, Grow h0 h → Nats h a1 x1 → Nats h a2 x2 → Own h0 a1 → Own h0 a2 → Runs (go (.pt F.ke0 Td.kj2 [(8, a1.v), (9, a2.v)]) h) (kpo h0 r)
theorem k3i {r : kdi} {o : ke7 ⊕ kdi} {x1 : List Nat} {x2 : List Nat} (e : keg x1 x2 = some o) (good : GoodS (kjn r) r o) : kjn r (.fn x1 x2) := by
 intro h a1 a2 n1 n2
 rw [kbae]
 unfold keg at e
 refine Runs.step (kde n1) ?_
 refine Runs.step (seen rfl) ?_
 refine Runs.step (kde n2) ?_
 refine Runs.step (seen rfl) ?_
 refine Runs.cond (fun k5 => ?_) (fun k5 => ?_)
 ·replace e := (condT k5).symm.trans e
  cases e
  cases good
  exact Runs.ret ⟨(⟨none, 0, .is 0⟩ : Sl), rfl, (Nats.nil _), (Grow.refl _), (Own.nil _)⟩
 ·replace e := (condF k5).symm.trans e
  refine Runs.cond (fun k6 => ?_) (fun k6 => ?_)
  ·replace e := (condT k6).symm.trans e
   cases e
   cases good
   exact Runs.ret ⟨(⟨none, 0, .is 0⟩ : Sl), rfl, (Nats.nil _), (Grow.refl _), (Own.nil _)⟩
  ·replace e := (condF k6).symm.trans e
   refine Runs.new fun H7 b7 g7 => ?_
   refine Runs.step (kn1 (n1.grow g7)) ?_
   obtain ⟨c8, q8, e⟩ := Option.bind_eq_some_iff.1 e
   obtain ⟨s8, H8, e8, n8, g8, o8⟩ := kr3 b7 (n1.grow g7) g7 (Nat.le_refl _) c8.down
   refine Runs.step e8 ?_
   refine Runs.step (asSl_v _) ?_
   refine Runs.new fun H9 b9 g9 => ?_
   refine Runs.step (kn1 (n2.grow ((g7.trans g8).trans g9))) ?_
   obtain ⟨c10, q10, e⟩ := Option.bind_eq_some_iff.1 e
   obtain ⟨s10, H10, e10, n10, g10, o10⟩ := kr3 b9 (n2.grow ((g7.trans g8).trans g9)) g9 (Nat.le_refl _) c10.down
   refine Runs.step e10 ?_
   refine Runs.step (asSl_v _) ?_
   cases e
   exact good (((g7.trans g8).trans g9).trans g10) (n8.grow (g9.trans g10)) n10 (o8.of_le (Grow.refl _)) (o10.of_le (g7.trans g8))
theorem kxf {r : kdi} {o : ke7 ⊕ kdi} {x1 : List Nat} {x2 : List Nat} (e : kgh x1 x2 = some o) (good : GoodS (kjn r) r o) : kjn r (.p7 x1 x2) := by
 intro h0 h a1 a2 g0 n1 n2 ow1 ow2
 rw [k4d]
 unfold kgh at e
 rw [n2.len]
 refine Runs.cond (fun k3 => ?_) (fun k3 => ?_)
 ·replace e := (condT k3).symm.trans e
  obtain ⟨s4, H4, e4, n4, g4, o4⟩ := ksn n1 n2
  refine Runs.step e4 ?_
  refine Runs.step (seen (asSl_v _)) ?_
  cases e
  exact good (g0.trans g4) (n2.grow g4) n4 (ow2.of_le (Grow.refl _)) (o4.of_le g0)
 ·replace e := (condF k3).symm.trans e
  cases e
  cases good
  exact Runs.ret ⟨a1, rfl, n1, g0, (ow1.of_le (Grow.refl _))⟩
theorem k0q {s : ke7} {r : kdi} (it : Iter koq s r) : kjn r s := Iter.ind (fun s o e good => by
 cases s with
 | fn x1 x2 => exact @k3i _ _ x1 x2 e good
 | p7 x1 x2 => exact @kxf _ _ x1 x2 e good
 ) it
end Go.Ab

/- squeezed -/
set_option linter.unusedVariables false
set_option linter.unusedSimpArgs false
set_option maxRecDepth 10000
namespace Go.Ab
open Go.Proofs Go.Num
def gcdN (xs ys : List Nat) : List Nat × Int := if rt xs = true ∧ rt ys = true then (digs B (Nat.gcd (num B xs) (num B ys)), 0) else ([], 1)
theorem kvc {xs ys : List Nat} (hx : rt xs = true) (hy : rt ys = true) (h0 : ys ≠ []) : (divN xs ys).2.1 = digs B (num B xs % num B ys) := by
 simp [divN, hx, hy, h0]
theorem kh6 {n : Nat} (h : n < B ^ 64) : rt (digs B n) = true := rt_iff.2 ⟨(kv B2 n 64).2 h, kb7 B2 n⟩
theorem kj8 {xs : List Nat} (hl : ∀ x ∈ xs, x < B) (h : rt xs = true) : num B xs < B ^ 64 := by
 have h1 := num_lt B1 hl
 have h2 : B ^ xs.length ≤ B ^ 64 := Nat.pow_le_pow_right B1 (rt_iff.1 h).1
 omega
theorem k91 : ∀ (b a : Nat), a < B ^ 64 → b < B ^ 64 → Iter kny (.p4 (digs B a) (digs B b)) (digs B (Nat.gcd a b), 0) := by
 intro b
 induction b using Nat.strongRecOn with
 | ind b ih =>
  intro a ha hb
  by_cases h0 : b = 0
  ·subst h0
   refine .done ?_
   show kft _ _ = _
   unfold kft
   rw [kb2, Nat.gcd_zero_right]
   rfl
  ·have hm := Nat.mod_lt a (show 0 < b by omega)
   have hne : digs B b ≠ [] := fun h => h0 ((ktr B2).1 h)
   have hl : (digs B b).length ≠ 0 := by simpa using hne
   refine .next (s' := .p4 (digs B b) (digs B (a % b))) ?_ (by
    have := ih (a % b) hm b hb (by omega)
    rwa [Nat.gcd_comm b, ← Nat.gcd_rec, Nat.gcd_comm b] at this)
   show kft _ _ = _
   unfold kft
   rw [condT (by rw [decide_eq_true_eq]; omega), kvc (kh6 ha) (kh6 hb) hne, ki B2, ki B2]
theorem kys : ∀ (b a : Nat), a < B ^ 64 → b < B ^ 64 → Iter koq (.p7 (digs B a) (digs B b)) (digs B (Nat.gcd a b), 0) := by
 intro b
 induction b using Nat.strongRecOn with
 | ind b ih =>
  intro a ha hb
  by_cases h0 : b = 0
  ·subst h0
   refine .done ?_
   show kgh _ _ = _
   unfold kgh
   rw [kb2, Nat.gcd_zero_right]
   rfl
  ·have hm := Nat.mod_lt a (show 0 < b by omega)
   have hne : digs B b ≠ [] := fun h => h0 ((ktr B2).1 h)
   have hl : (digs B b).length ≠ 0 := by simpa using hne
   refine .next (s' := .p7 (digs B b) (digs B (a % b))) ?_ (by
    have := ih (a % b) hm b hb (by omega)
    rwa [Nat.gcd_comm b, ← Nat.gcd_rec, Nat.gcd_comm b] at this)
   show kgh _ _ = _
   unfold kgh
   rw [condT (by rw [decide_eq_true_eq]; omega), kvc (kh6 ha) (kh6 hb) hne, ki B2, ki B2]
theorem k3z {xs ys : List Nat} (lx : ∀ x ∈ xs, x < B) (ly : ∀ x ∈ ys, x < B) : Iter kny (.fn xs ys) (gcdN xs ys) := by
 unfold gcdN
 cases hx : rt xs with
 | false =>
  refine .done ?_
  show kd3 _ _ = _
  unfold kd3
  simp [hx]
 | true =>
  cases hy : rt ys with
  | false =>
   refine .done ?_
   show kd3 _ _ = _
   unfold kd3
   simp [hx, hy]
  | true =>
   obtain ⟨lx64, tx⟩ := rt_iff.1 hx
   obtain ⟨ly64, ty⟩ := rt_iff.1 hy
   have key := k91 (num B ys) (num B xs) (kj8 lx hx) (kj8 ly hy)
   rw [ker B2 lx tx, ker B2 ly ty] at key
   simp only [and_self, if_true]
   refine .next ?_ key
   show kd3 _ _ = _
   unfold kd3
   rw [hx, hy, kg (by omega), Option.bind_some, kg (by omega), Option.bind_some]
   rfl
theorem kx4 {xs ys : List Nat} (lx : ∀ x ∈ xs, x < B) (ly : ∀ x ∈ ys, x < B) : Iter koq (.fn xs ys) (gcdN xs ys) := by
 unfold gcdN
 cases hx : rt xs with
 | false =>
  refine .done ?_
  show keg _ _ = _
  unfold keg
  simp [hx]
 | true =>
  cases hy : rt ys with
  | false =>
   refine .done ?_
   show keg _ _ = _
   unfold keg
   simp [hx, hy]
  | true =>
   obtain ⟨lx64, tx⟩ := rt_iff.1 hx
   obtain ⟨ly64, ty⟩ := rt_iff.1 hy
   have key := kys (num B ys) (num B xs) (kj8 lx hx) (kj8 ly hy)
   rw [ker B2 lx tx, ker B2 ly ty] at key
   simp only [and_self, if_true]
   refine .next ?_ key
   show keg _ _ = _
   unfold keg
   rw [hx, hy, kg (by omega), Option.bind_some, kg (by omega), Option.bind_some]
   rfl
theorem k9c {h : AH} {s t : Sl} {xs ys : List Nat} (n : Nats h s xs) (m : Nats h t ys) : Runs (go (.fn F.kfi [s.v, t.v]) h) (kn6 h (gcdN xs ys)) := kxx (k3z n.lt m.lt) n m
theorem k61 {h : AH} {s t : Sl} {xs ys : List Nat} (n : Nats h s xs) (m : Nats h t ys) : Runs (go (.fn F.ke0 [s.v, t.v]) h) (kpo h (gcdN xs ys)) := k0q (kx4 n.lt m.lt) n m
theorem k9i : digs B 1 = [1] := by decide +kernel
end Go.Ab

/- squeezed -/
set_option linter.unusedVariables false
set_option linter.unusedSimpArgs false
set_option maxRecDepth 10000
namespace Go.Ab
open Go.Proofs Go.Num
end Go.Ab

/- squeezed -/
set_option linter.unusedVariables false
set_option linter.unusedSimpArgs false
set_option maxRecDepth 10000
namespace Go.Ab
open Go.Proofs Go.Num
end Go.Ab

/- squeezed -/
set_option linter.unusedVariables false
set_option linter.unusedSimpArgs false
set_option maxRecDepth 10000
namespace Go.Ab
open Go.Proofs Go.Num
end Go.Ab

/- squeezed -/
set_option linter.unusedVariables false
set_option linter.unusedSimpArgs false
set_option maxRecDepth 10000
namespace Go.Ab
open Go.Proofs Go.Num
end Go.Ab

/- squeezed -/
set_option linter.unusedVariables false
set_option linter.unusedSimpArgs false
set_option maxRecDepth 10000
namespace Go.Ab
open Go.Proofs Go.Num
end Go.Ab

/- squeezed -/
set_option linter.unusedVariables false
set_option linter.unusedSimpArgs false
set_option maxRecDepth 10000
namespace Go.Ab
open Go.Proofs Go.Num
end Go.Ab

/- squeezed -/
set_option linter.unusedVariables false
set_option linter.unusedSimpArgs false
set_option maxRecDepth 10000
namespace Go.Ab
open Go.Proofs Go.Num
theorem kvw {h : AH} : ∃ (s' : Sl) (h' : AH), go (.fn F.kio [.int .u64 1]) h = some (s'.v, h') ∧ Nats h' s' [1] ∧ Grow h h' ∧ Own h s' := by
 have := kxq (h := h) (x := 1) (by decide)
 rw [k9i] at this
 exact this
end Go.Ab

/- squeezed -/
set_option linter.unusedVariables false
namespace Go.Ab
end Go.Ab

/- squeezed -/
set_option linter.unusedVariables false
set_option linter.unusedSimpArgs false
set_option maxRecDepth 10000
namespace Go.Ab
open Go.Proofs Go.Num
end Go.Ab

/- squeezed -/
set_option linter.unusedVariables false
set_option linter.unusedSimpArgs false
set_option maxRecDepth 10000
namespace Go.Ab
open Go.Proofs Go.Num
structure Eu (n A X Y : Nat) (e : Int) (u v : Nat) : Prop where
 sign : e = 1 ∨ e = -1
 sum : u * Y + v * X = n
 ub : u ≤ n
 one : (n : Int) ∣ e * u * A - X
 two : (n : Int) ∣ -(e * v) * A - Y
theorem Eu.vb {n A X Y : Nat} {e : Int} {u v : Nat} (E : Eu n A X Y e u v) (hX : 0 < X) : v ≤ n := by
 have h1 : v * 1 ≤ v * X := Nat.mul_le_mul_left _ hX
 have := E.sum
 omega
theorem Eu.next {n A X Y : Nat} {e : Int} {u v : Nat} (E : Eu n A X Y e u v) (hY : 0 < Y) (hX : 0 < X) : Eu n A Y (X % Y) (-e) v (u + X / Y * v) := by
 have dm := Nat.div_add_mod X Y
 refine ⟨?_, ?_, E.vb hX, ?_, ?_⟩
 ·rcases E.sign with h | h <;> subst h <;> simp
 ·have h := E.sum
  have h1 : v * X = v * (Y * (X / Y)) + v * (X % Y) := by rw [← Nat.mul_add, dm]
  have h2 : v * (Y * (X / Y)) = X / Y * v * Y := by rw [Nat.mul_comm Y, ← Nat.mul_assoc, Nat.mul_comm v]
  rw [Nat.add_mul]
  omega
 ·have := E.two
  rwa [Int.neg_mul e (v : Int)]
 ·have h1 := E.one
  have h2 := Int.dvd_mul_of_dvd_right (b := ((X / Y : Nat) : Int)) E.two
  have h3 := Int.dvd_sub h1 h2
  have e1 : e * (u : Int) * (A : Int) - (X : Int) - ((X / Y : Nat) : Int) * (-(e * (v : Int)) * (A : Int) - (Y : Int)) = -(-e * ((u + X / Y * v : Nat) : Int)) * (A : Int) - ((X % Y : Nat) : Int) := by
   have hX : (X : Int) = (Y : Int) * ((X / Y : Nat) : Int) + ((X % Y : Nat) : Int) := by rw [← Int.natCast_mul, ← Int.natCast_add, dm]
   generalize X / Y = q at *
   generalize X % Y = r at *
   rw [hX, Int.natCast_add, Int.natCast_mul]
   simp only [Int.neg_mul, Int.mul_add, Int.add_mul, Int.mul_sub, Int.mul_neg, Int.neg_neg]
   have a1 : e * ((q : Int) * (v : Int)) * (A : Int) = (q : Int) * (e * (v : Int) * (A : Int)) := by
    rw [← Int.mul_assoc, Int.mul_comm e (q : Int), Int.mul_assoc (q : Int), Int.mul_assoc (q : Int)]
   have a2 : (Y : Int) * (q : Int) = (q : Int) * (Y : Int) := Int.mul_comm _ _
   rw [a1, a2]
   omega
  rwa [e1] at h3
end Go.Ab

/- squeezed -/
set_option linter.unusedVariables false
set_option linter.unusedSimpArgs false
set_option maxRecDepth 10000
namespace Go.Ab
open Go.Proofs Go.Num
end Go.Ab

/- squeezed -/
set_option linter.unusedVariables false
set_option linter.unusedSimpArgs false
namespace Go.Ab
variable {P : Program}
inductive All2 {α β : Type} (R : α → β → Prop) : List α → List β → Prop
 | nil : All2 R [] []
 | cons {a : α} {b : β} {ls : List α} {bs : List β} : R a b → All2 R ls bs → All2 R (a :: ls) (b :: bs)
section
variable {α β : Type} {R S : α → β → Prop}
theorem All2.imp (f : ∀ a b, R a b → S a b) {ls : List α} {bs : List β} (a : All2 R ls bs) : All2 S ls bs := by
 induction a with
 | nil => exact .nil
 | cons h _ ih => exact .cons (f _ _ h) ih
theorem All2.length {ls : List α} {bs : List β} (a : All2 R ls bs) : ls.length = bs.length := by
 induction a with
 | nil => rfl
 | cons h _ ih => simp [ih]
theorem All2.get {ls : List α} {bs : List β} (a : All2 R ls bs) : ∀ {i : Nat} {y : β}, bs[i]? = some y → ∃ x, ls[i]? = some x ∧ R x y := by
 induction a with
 | nil => intro i y h; simp at h
 | cons h _ ih =>
  intro i y hy
  cases i with
  | zero => cases hy; exact ⟨_, rfl, h⟩
  | succ i => exact ih hy
theorem All2.snoc {ls : List α} {bs : List β} (a : All2 R ls bs) {x : α} {y : β} (h : R x y) : All2 R (ls ++ [x]) (bs ++ [y]) := by
 induction a with
 | nil => exact .cons h .nil
 | cons h' _ ih => exact .cons h' ih
end
structure El (α : Type) where
 w : Nat
 pos : 0 < w
 has : AH → List AV → α → Prop
 av : Nat → List AV → α → Prop
 len : ∀ {h : AH} {cs : List AV} {a : α}, has h cs a → cs.length = w
 grow : ∀ {h h' : AH} {cs : List AV} {a : α}, Grow h h' → has h cs a → has h' cs a
 upd : ∀ {h h' : AH} {i : Nat} {cs : List AV} {a : α}, has h cs a → av i cs a → Upd h h' i → has h' cs a
 new : ∀ {h : AH} {i : Nat} {cs : List AV} {a : α}, has h cs a → h.blks.size ≤ i → av i cs a
def El.int (k : IntKind) : El Int where
 w := 1
 pos := by decide
 has _ cs n := cs = [.int k n]
 av _ _ _ := True
 len e := by rw [e]; rfl
 grow _ e := e
 upd e _ _ := e
 new _ _ := trivial
def El.bool : El Bool where
 w := 1
 pos := by decide
 has _ cs b := cs = [.bool b]
 av _ _ _ := True
 len e := by rw [e]; rfl
 grow _ e := e
 upd e _ _ := e
 new _ _ := trivial
theorem Sl.vs_inj {s t : Sl} (h : [Sl.v s] = [Sl.v t]) : s = t := by
 cases s; cases t
 simp only [Sl.v, List.cons.injEq, AV.slice.injEq, and_true] at h
 obtain ⟨rfl, rfl, rfl⟩ := h
 rfl
def El.nats : El (List Nat) where
 w := 1
 pos := by decide
 has h cs xs := ∃ s, cs = [Sl.v s] ∧ Nats h s xs
 av i cs xs := ∃ s, cs = [Sl.v s] ∧ Av s i xs
 len := fun ⟨s, e, _⟩ => by rw [e]; rfl
 grow g := fun ⟨s, e, n⟩ => ⟨s, e, n.grow g⟩
 upd := fun ⟨s, e, n⟩ ⟨t, e', a⟩ u => by
  rw [e] at e'
  cases Sl.vs_inj e'
  exact ⟨s, e, n.upda a u⟩
 new := fun ⟨s, e, n⟩ hi => ⟨s, e, Av.of_base n hi⟩
def El.pair {α β : Type} (A : El α) (B : El β) : El (α × β) where
 w := A.w + B.w
 pos := by have := A.pos; omega
 has h cs p := ∃ c1 c2, cs = c1 ++ c2 ∧ A.has h c1 p.1 ∧ B.has h c2 p.2
 av i cs p := ∃ c1 c2, cs = c1 ++ c2 ∧ c1.length = A.w ∧ A.av i c1 p.1 ∧ B.av i c2 p.2
 len := fun ⟨c1, c2, e, a, b⟩ => by rw [e, List.length_append, A.len a, B.len b]
 grow g := fun ⟨c1, c2, e, a, b⟩ => ⟨c1, c2, e, A.grow g a, B.grow g b⟩
 upd := fun ⟨c1, c2, e, a, b⟩ ⟨d1, d2, e', l, a', b'⟩ u => by
  rw [e] at e'
  obtain ⟨rfl, rfl⟩ := List.append_inj e' (by rw [A.len a, l])
  exact ⟨c1, c2, e, A.upd a a' u, B.upd b b' u⟩
 new := fun ⟨c1, c2, e, a, b⟩ hi => ⟨c1, c2, e, A.len a, A.new a hi, B.new b hi⟩
theorem kdx {w : Nat} : ∀ {rows : List (List AV)}, (∀ r ∈ rows, r.length = w) → rows.flatten.length = rows.length * w
 | [], _ => by simp
 | r :: rows, h => by
  rw [List.flatten_cons, List.length_append, kdx (fun q hq => h q (by simp [hq])), h r (by simp), List.length_cons, Nat.add_mul]
  omega
theorem kkz {w : Nat} : ∀ {rows : List (List AV)}, (∀ r ∈ rows, r.length = w) → ∀ {i : Nat} {r : List AV} {k : Nat} {v : AV}, rows[i]? = some r → r[k]? = some v → rows.flatten[i * w + k]? = some v
 | [], _, i, r, k, v, hi, _ => by simp at hi
 | q :: rows, h, 0, r, k, v, hi, hk => by
  cases hi
  rw [List.flatten_cons, List.getElem?_append_left (by have := (List.getElem?_eq_some_iff.1 hk).1; omega)]
  simpa using hk
 | q :: rows, h, i + 1, r, k, v, hi, hk => by
  have := kkz (fun q hq => h q (by simp [hq])) (show rows[i]? = some r from hi) hk
  rw [List.flatten_cons, List.getElem?_append_right (by rw [h q (by simp), Nat.add_mul]; omega), h q (by simp), show (i + 1) * w + k - w = i * w + k from by rw [Nat.add_mul]; omega]
  exact this
theorem All2.rows {α : Type} {E : El α} {h : AH} {rows : List (List AV)} {xs : List α} (a : All2 (E.has h) rows xs) : ∀ r ∈ rows, r.length = E.w := by
 induction a with
 | nil => simp
 | cons h' _ ih =>
  intro r hr
  rcases List.mem_cons.1 hr with rfl | hr
  ·exact E.len h'
  ·exact ih r hr
structure Seq {α : Type} (E : El α) (h : AH) (s : Sl) (xs : List α) : Prop where
 rows : ∃ rows, Cells h s E.w rows.flatten ∧ All2 (E.has h) rows xs
 len : s.len = xs.length
 short : xs.length ≤ 9223372036854775807
theorem Seq.grow {α : Type} {E : El α} {h h' : AH} {s : Sl} {xs : List α} (n : Seq E h s xs) (g : Grow h h') : Seq E h' s xs := by
 obtain ⟨⟨rows, c, a⟩, l, sh⟩ := n
 exact ⟨⟨rows, c.grow g, a.imp fun _ _ => E.grow g⟩, l, sh⟩
theorem Seq.nil {α : Type} (E : El α) (h : AH) : Seq E h ⟨none, 0, .is 0⟩ [] := ⟨⟨[], Cells.nil h _, .nil⟩, rfl, by simp⟩
def atX {α : Type} (xs : List α) (i : Int) : Option α := if 0 ≤ i then xs[i.toNat]? else none
theorem ku0 {α : Type} {xs : List α} {i : Int} {y : α} (q : atX xs i = some y) : ∃ j : Nat, i = (j : Int) ∧ xs[j]? = some y := by
 unfold atX at q
 split at q
 ·exact ⟨i.toNat, by omega, q⟩
 ·cases q
theorem kl6 {α : Type} {xs : List α} {i : Nat} (h : i < xs.length) : atX xs (i : Int) = some xs[i] := by
 unfold atX
 rw [if_pos (by omega), Int.toNat_natCast, List.getElem?_eq_getElem h]
structure Lies (h : AH) (r : Ref) (cs : List AV) : Prop where
 at' : ∀ k v, cs[k]? = some v → h.cell (r.add k) = some v
theorem Lies.rd {A : Type} {f : AV → Option A} {h h' : AH} {r : Ref} {cs : List AV} (l : Lies h r cs) (g : Grow h h') (k : Nat) {v : AV} {x : A} (hk : cs[k]? = some v) (hf : f v = some x) : (h'.cell (r.add k)).bind f = some x := by
 rw [g.cell_some (l.at' k v hk)]
 exact hf
theorem Lies.rd0 {A : Type} {f : AV → Option A} {h h' : AH} {r : Ref} {cs : List AV} (l : Lies h r cs) (g : Grow h h') {v : AV} {x : A} (hk : cs[0]? = some v) (hf : f v = some x) : (h'.cell r).bind f = some x := by
 have := l.rd g 0 hk hf
 rwa [Ref.add_zero] at this
theorem Seq.at {α : Type} {E : El α} {h : AH} {s : Sl} {xs : List α} (n : Seq E h s xs) {i : Int} {y : α} (q : atX xs i = some y) : ∃ (r : Ref) (cs : List AV), idx s.ref xs.length i E.w = some r ∧ E.has h cs y ∧ Lies h r cs := by
 obtain ⟨⟨rows, c, a⟩, l, sh⟩ := n
 obtain ⟨j, rfl, hj⟩ := ku0 q
 obtain ⟨cs, e1, e2⟩ := a.get hj
 have hjl := (List.getElem?_eq_some_iff.1 hj).1
 have hr := a.rows
 have key : ∀ k v, cs[k]? = some v → ∃ r, s.ref = some r ∧ h.cell (r.add (j * E.w + k)) = some v := fun k v hk => c.get _ _ (kkz hr e1 hk)
 cases hs : s.ref with
 | none =>
  exfalso
  cases cs with
  | nil => have := E.len e2; have := E.pos; simp at *; omega
  | cons v vs =>
   obtain ⟨r, e, _⟩ := key 0 v rfl
   rw [hs] at e
   cases e
 | some r =>
  refine ⟨r.add (j * E.w), cs, ?_, e2, ⟨fun k v hk => ?_⟩⟩
  ·rw [kda _ _ _ _ (by omega) (by omega)]
   simp
  ·obtain ⟨r', e, e'⟩ := key k v hk
   rw [hs] at e
   cases e
   rw [Ref.add_add]
   exact e'
structure GL {α : Type} (E : El α) (elem : TypeId) (h : AH) (s : Sl) (i : Nat) (xs : List α) : Prop where
 rows : ∃ rows, Cells h s E.w rows.flatten ∧ All2 (fun cs a => E.has h cs a ∧ E.av i cs a) rows xs
 len : s.len = xs.length
 own : s.cap = .is s.len ∨ (s.ref = some (.new i 0) ∧ s.cap = .opn E.w ∧ ∃ bs, h.has i bs elem)
 loc : ∀ r, s.ref = some r → ∃ o, r = .new i o
theorem GL.nil {α : Type} (E : El α) (elem : TypeId) (h : AH) (i : Nat) : GL E elem h ⟨none, 0, .is 0⟩ i [] :=
 ⟨⟨[], Cells.nil h _, .nil⟩, rfl, .inl rfl, fun r hr => by cases hr⟩
theorem GL.one {α : Type} {E : El α} {elem e : TypeId} {h : AH} {i : Nat} {cs : List AV} {x : α} (b : h.has i cs e) (c : E.has h cs x) (a : E.av i cs x) : GL E elem h ⟨some (.new i 0), 1, .is 1⟩ i [x] :=
 ⟨⟨[cs], Cells.of_has (by simpa using b) (by simp [E.len c]), .cons ⟨c, a⟩ .nil⟩, rfl, .inl rfl, fun r hr => by cases hr; exact ⟨_, rfl⟩⟩
theorem GL.grow {α : Type} {E : El α} {elem : TypeId} {h h' : AH} {s : Sl} {i : Nat} {xs : List α} (v : GL E elem h s i xs) (g : Grow h h') : GL E elem h' s i xs := by
 obtain ⟨⟨rows, c, a⟩, l, o, lo⟩ := v
 exact ⟨⟨rows, c.grow g, a.imp fun _ _ p => ⟨E.grow g p.1, p.2⟩⟩, l, o.imp id fun ⟨e1, e2, bs, b⟩ => ⟨e1, e2, bs, g.has b⟩, lo⟩
theorem GL.seq {α : Type} {E : El α} {elem : TypeId} {h : AH} {s : Sl} {i : Nat} {xs : List α} (v : GL E elem h s i xs) (hs : xs.length ≤ 9223372036854775807) : Seq E h s xs := by
 obtain ⟨⟨rows, c, a⟩, l, o, lo⟩ := v
 exact ⟨⟨rows, c, a.imp fun _ _ p => p.1⟩, l, hs⟩
theorem GL.own_of {α : Type} {E : El α} {elem : TypeId} {h h0 : AH} {s : Sl} {i : Nat} {xs : List α} (v : GL E elem h s i xs) (hi : h0.blks.size ≤ i) : Own h0 s := fun r hr => by
 obtain ⟨o, rfl⟩ := v.loc r hr
 exact ⟨i, o, rfl, hi⟩
theorem AH.kill_Upd (h : AH) (i : Nat) : Upd h (h.kill (some (.new i 0))) i :=
 ⟨rfl, by simp [AH.kill], fun j hj _ => by
  show (h.blks.setIfInBounds i .dead)[j]? = _
  rw [Array.getElem?_setIfInBounds_ne (fun x => hj x.symm)]⟩
theorem GL.push {α : Type} {E : El α} {elem : TypeId} {h : AH} {s : Sl} {i : Nat} {xs : List α} (v : GL E elem h s i xs) {cs : List AV} {x : α} (c : E.has h cs x) (a : E.av i cs x) (hg : growOk P (xs.length + 1) elem E.w = true) :
  ∃ s' h', kr P s cs 1 elem E.w h = some (s'.v, h') ∧ GL E elem h' s' h.blks.size (xs ++ [x]) ∧ Upd h h' i := by
 obtain ⟨⟨rows, cc, aa⟩, l, o, lo⟩ := v
 rw [← l] at hg
 have fl : (s.len + 1) * E.w = (rows.flatten ++ cs).length := by rw [Nat.add_mul, cc.len, List.length_append, E.len c, Nat.one_mul]
 have fr : rows.flatten ++ cs = (rows ++ [cs]).flatten := by simp
 rcases o with e | ⟨e1, e2, bs, b⟩
 ·rw [kgo e (by omega) hg cc]
  refine ⟨_, _, rfl, ⟨⟨rows ++ [cs], ⟨rfl, by rw [← fr]; exact fl, fun j w hw => ⟨_, rfl, ?_⟩⟩, ?_⟩, by simp [l], .inr ⟨rfl, rfl, rows.flatten ++ cs, AH.has_push _ _ _⟩, fun r hr => by cases hr; exact ⟨_, rfl⟩⟩, (Grow.push _ _).toUpd i⟩
  ·rw [fr]
   simpa using hw
  ·refine All2.snoc (aa.imp fun _ _ p => ?_) ⟨E.grow (Grow.push _ _) c, E.new c (Nat.le_refl _)⟩
   exact ⟨E.grow (Grow.push _ _) p.1, E.new p.1 (Nat.le_refl _)⟩
 ·have hap : kr P s cs 1 elem E.w h = some (Sl.v ⟨some (.new h.blks.size 0), s.len + 1, .opn E.w⟩, (h.kill s.ref).push (.cells (rows.flatten ++ cs) elem)) := by
   unfold kr
   simp only [e2]
   rw [show Nat.beq 1 0 = false from rfl, show Nat.beq E.w E.w = true from Nat.beq_refl _]
   simp only [cond_false, hg, Bool.and_true, cond_true, e1, show h.blks[i]? = _ from b]
   have hgets := cc.gets
   rw [e1] at hgets
   simp only [hgets, Option.bind_some]
   rw [show Nat.beq elem elem = true from Nat.beq_refl _, cond_true]
   have : (AH.kill h (some (Ref.new i 0))).blks.size = h.blks.size := by simp [AH.kill]
   simp [AH.next, this, Sl.v]
   rfl
  rw [hap, e1]
  have sz : (h.kill (some (.new i 0))).blks.size = h.blks.size := by simp [AH.kill]
  have u : Upd h (h.kill (some (.new i 0))) i := AH.kill_Upd h i
  refine ⟨_, _, rfl, ⟨⟨rows ++ [cs], ⟨rfl, by rw [← fr]; exact fl, fun j w hw => ⟨_, rfl, ?_⟩⟩, ?_⟩, by simp [l], .inr ⟨rfl, rfl, rows.flatten ++ cs, ?_⟩, fun r hr => by cases hr; exact ⟨_, rfl⟩⟩, u.trans ((Grow.push _ _).toUpd i)⟩
  ·rw [fr, ← sz]
   simpa using hw
  ·refine All2.snoc (aa.imp fun _ _ p => ?_) ⟨E.grow (Grow.push _ _) (E.upd c a u), E.new c (Nat.le_refl _)⟩
   exact ⟨E.grow (Grow.push _ _) (E.upd p.1 p.2 u), E.new p.1 (Nat.le_refl _)⟩
  ·have := AH.has_push (h.kill (some (.new i 0))) (rows.flatten ++ cs) elem
   rw [sz] at this
   exact this
theorem kfw {h : AH} {i n : Nat} {cs : List AV} {e elem : TypeId} (b : h.has i cs e) (hl : n * P.cellsOf elem = cs.length) : kbc P elem (Sl.v ⟨some (.new i 0), n, .is n⟩) h = some (cs, n) :=
 kiz (Cells.of_has b hl)
section
variable {Q : AV → AH → Prop}
theorem Runs.putAt {h : AH} {i o : Nat} {cs cs' vs : List AV} {e : TypeId} {K : AH → Option (AV × AH)} (b : h.has i cs e) (hl : o + vs.length ≤ cs.length) (hc : cs.take o ++ vs ++ cs.drop (o + vs.length) = cs') (H : ∀ h', h'.has i cs' e → Upd h h' i → Runs (K h') Q) : Runs ((h.puts ((Ref.new i 0).add o) vs).bind K) Q := by
 subst hc
 rw [Ref.add_new, Nat.zero_add, b.puts hl]
 exact H _ (AH.has_upd b _ e) (AH.upd_Upd h i _ e)
end
end Go.Ab

/- squeezed -/
set_option linter.unusedVariables false
set_option linter.unusedSimpArgs false
namespace Go.Ab
def overW (xs ys : List Nat) : Option (List Nat) := if ys.length ≤ xs.length then some (ys ++ xs.drop ys.length) else none
end Go.Ab

/- squeezed -/
set_option linter.unusedVariables false
set_option linter.unusedSimpArgs false
namespace Go.Ab
variable {P : Program}
def UpdO (h h' : AH) : Option Nat → Prop
 | none => Grow h h'
 | some k => Upd h h' k
def AvO (s : Sl) (xs : List Nat) : Option Nat → Prop
 | none => True
 | some k => Av s k xs
def LeO (n : Nat) : Option Nat → Prop
 | none => True
 | some k => n ≤ k
def LtO (n : Nat) : Option Nat → Prop
 | none => True
 | some k => k < n
def NeO (j : Nat) : Option Nat → Prop
 | none => True
 | some k => j ≠ k
def NeOO : Option Nat → Option Nat → Prop
 | none, _ => True
 | some j, i => NeO j i
theorem LeO.trans {m n : Nat} (h : m ≤ n) : ∀ {i : Option Nat}, LeO n i → LeO m i
 | none, _ => trivial
 | some k, l => Nat.le_trans h l
theorem NeO.of_le {j n : Nat} : ∀ {i : Option Nat}, LeO n i → j < n → NeO j i
 | none, _, _ => trivial
 | some k, l, h => by
  have : n ≤ k := l
  show j ≠ k
  omega
theorem NeOO.of_le {n : Nat} : ∀ {j i : Option Nat}, LtO n j → LeO n i → NeOO j i
 | none, _, _, _ => trivial
 | some j, _, l, h => NeO.of_le h l
theorem AvO.of_base {h0 : AH} {s : Sl} {xs : List Nat} (n : Nats h0 s xs) : ∀ {i : Option Nat}, LeO h0.blks.size i → AvO s xs i
 | none, _ => trivial
 | some k, l => Av.of_base n l
theorem AvO.of_own {h1 : AH} {s : Sl} {xs : List Nat} (o : Own h1 s) : ∀ {i : Option Nat}, LtO h1.blks.size i → AvO s xs i
 | none, _ => trivial
 | some k, l => Av.of_own o l
theorem AvO.nil (i : Option Nat) (s : Sl) : AvO s [] i := by
 cases i
 ·trivial
 ·exact .inl rfl
theorem UpdO.trans {h1 h2 h3 : AH} : ∀ {i : Option Nat}, UpdO h1 h2 i → UpdO h2 h3 i → UpdO h1 h3 i
 | none, u, w => Grow.trans u w
 | some k, u, w => Upd.trans u w
theorem Grow.updo {h h1 h2 : AH} (g : Grow h h1) : ∀ {i : Option Nat}, LeO h.blks.size i → UpdO h1 h2 i → Grow h h2
 | none, _, u => g.trans u
 | some k, l, u => g.updr l u
theorem AH.has.updo {h1 h2 : AH} {j : Nat} {cs : List AV} {e : TypeId} (b : h1.has j cs e) : ∀ {i : Option Nat}, NeO j i → UpdO h1 h2 i → h2.has j cs e
 | none, _, u => u.has b
 | some k, l, u => AH.has.updr b l u
theorem Vec.updo {h1 h2 : AH} {s : Sl} {j : Nat} {xs : List Nat} (b : Vec h1 s j xs) : ∀ {i : Option Nat}, NeO j i → UpdO h1 h2 i → Vec h2 s j xs
 | none, _, u => b.grow u
 | some k, l, u => b.updr l u
theorem Nats.updo {h1 h2 : AH} {s : Sl} {xs : List Nat} (b : Nats h1 s xs) : ∀ {i : Option Nat}, AvO s xs i → UpdO h1 h2 i → Nats h2 s xs
 | none, _, u => b.grow u
 | some k, l, u => b.upda l u
def GO {α : Type} (E : El α) (elem : TypeId) (h : AH) (s : Sl) (i : Option Nat) (xs : List α) : Prop :=
 xs.length ≤ 9223372036854775807 ∧ match i with
 | none => s = ⟨none, 0, .is 0⟩ ∧ xs = []
 | some k => GL E elem h s k xs ∧ k < h.blks.size
def AvE {α : Type} (E : El α) (cs : List AV) (x : α) : Option Nat → Prop
 | none => True
 | some k => E.av k cs x
variable {α : Type} {E : El α} {elem : TypeId}
theorem GO.none (E : El α) (elem : TypeId) (h : AH) : GO E elem h ⟨none, 0, .is 0⟩ none [] := ⟨by simp, rfl, rfl⟩
theorem GO.one {h : AH} {i : Nat} {cs : List AV} {x : α} {e : TypeId} (b : h.has i cs e) (c : E.has h cs x) (a : E.av i cs x) : GO E elem h ⟨some (.new i 0), 1, .is 1⟩ (some i) [x] :=
 ⟨by simp, GL.one b c a, b.lt⟩
theorem GO.grow {h h' : AH} {s : Sl} : ∀ {i : Option Nat} {xs : List α}, GO E elem h s i xs → Grow h h' → GO E elem h' s i xs
 | .none, _, v, g => v
 | .some k, _, ⟨l, v, lt⟩, g => ⟨l, v.grow g, Nat.lt_of_lt_of_le lt g.size⟩
theorem GO.lt {h : AH} {s : Sl} : ∀ {i : Option Nat} {xs : List α}, GO E elem h s i xs → LtO h.blks.size i
 | .none, _, _ => trivial
 | .some k, _, v => v.2.2
theorem GO.seq {h : AH} {s : Sl} : ∀ {i : Option Nat} {xs : List α}, GO E elem h s i xs → Seq E h s xs
 | .none, xs, ⟨_, e1, e2⟩ => by
  subst e1; subst e2
  exact Seq.nil E h
 | .some k, _, v => v.2.1.seq v.1
theorem GO.len {h : AH} {s : Sl} {i : Option Nat} {xs : List α} (v : GO E elem h s i xs) : s.len = xs.length := v.seq.len
theorem GO.own {h h0 : AH} {s : Sl} : ∀ {i : Option Nat} {xs : List α}, GO E elem h s i xs → LeO h0.blks.size i → Own h0 s
 | .none, _, v, _ => fun r hr => by rw [v.2.1] at hr; cases hr
 | .some k, _, v, l => v.2.1.own_of l
theorem GL.lt {h : AH} {s : Sl} {i : Nat} {x : α} {xs : List α} (v : GL E elem h s i (xs ++ [x])) : i < h.blks.size := by
 obtain ⟨⟨rows, c, a⟩, l, o, lo⟩ := v
 have hr : rows.length = xs.length + 1 := by have := All2.length a; simpa using this
 have hf := kdx (w := E.w) (rows := rows) (All2.rows (a.imp fun _ _ p => p.1))
 have hp := E.pos
 have h0 : 0 < rows.flatten.length := by
  rw [hf, hr]
  exact Nat.mul_pos (by omega) hp
 obtain ⟨r, e1, e2⟩ := c.get 0 _ (List.getElem?_eq_getElem h0)
 obtain ⟨k, rfl⟩ := lo r e1
 have := AH.cell_inn e2
 rw [Ref.add_new] at this
 exact this
theorem kqj {n m : Nat} (h : growOk P n elem m = true) : n ≤ 9223372036854775807 := by
 unfold growOk at h
 rw [Bool.and_eq_true, decide_eq_true_eq] at h
 have := h.1.2
 simp only [ks] at this
 omega
theorem GO.push {h : AH} {s : Sl} {i : Option Nat} {xs : List α} (v : GO E elem h s i xs) {cs : List AV} {x : α} (c : E.has h cs x) (a : AvE E cs x i) (hg : growOk P (xs.length + 1) elem E.w = true) :
  ∃ s' h', kr P s cs 1 elem E.w h = some (s'.v, h') ∧ GO E elem h' s' (some h.blks.size) (xs ++ [x]) ∧ UpdO h h' i := by
 have hl := kqj hg
 cases i with
 | none =>
  obtain ⟨_, e1, e2⟩ := v
  subst e1; subst e2
  obtain ⟨s', h', e, v', u⟩ := (GL.nil E elem h h.blks.size).push c (E.new c (Nat.le_refl _)) hg
  exact ⟨s', h', e, ⟨by simp, v', v'.lt⟩, (Grow.refl h).updr (Nat.le_refl _) u⟩
 | some k =>
  obtain ⟨s', h', e, v', u⟩ := v.2.1.push c a hg
  exact ⟨s', h', e, ⟨by simpa using hl, v', v'.lt⟩, u⟩
theorem Seq.lit {h : AH} {i n : Nat} {rows : List (List AV)} {e : TypeId} {xs : List α} (b : h.has i rows.flatten e) (a : All2 (E.has h) rows xs) (hn : xs.length = n) (hs : n ≤ 9223372036854775807 := by decide) : Seq E h ⟨some (.new i 0), n, .is n⟩ xs := by
 refine ⟨⟨rows, Cells.of_has b ?_, a⟩, hn.symm, by omega⟩
 rw [kdx a.rows, All2.length a, hn]
theorem AvE.nats {s : Sl} {xs : List Nat} : ∀ {i : Option Nat}, AvO s xs i → AvE El.nats [s.v] xs i
 | .none, _ => trivial
 | .some k, a => ⟨s, rfl, a⟩
theorem AvE.int {k : IntKind} {n : Int} {cs : List AV} : ∀ {i : Option Nat}, AvE (El.int k) cs n i
 | .none => trivial
 | .some _ => trivial
theorem AvE.bool {b : Bool} {cs : List AV} : ∀ {i : Option Nat}, AvE El.bool cs b i
 | .none => trivial
 | .some _ => trivial
theorem AvE.pair {α β : Type} {A : El α} {B : El β} {c1 c2 : List AV} {a : α} {b : β} : ∀ {i : Option Nat}, c1.length = A.w → AvE A c1 a i → AvE B c2 b i → AvE (El.pair A B) (c1 ++ c2) (a, b) i
 | .none, _, _, _ => trivial
 | .some k, l, x, y => ⟨c1, c2, rfl, l, x, y⟩
end Go.Ab

/- squeezed -/
set_option linter.unusedVariables false
set_option linter.unusedSimpArgs false
namespace Go.Ab
variable {P : Program}
abbrev Fp := Nat → Prop
def Fp.no : Fp := fun _ => False
def Fp.all : Fp := fun _ => True
def Fp.or (S T : Fp) : Fp := fun j => S j ∨ T j
def Fp.below (n : Nat) : Fp := fun j => j < n
def Fp.from (n : Nat) : Fp := fun j => n ≤ j
def Fp.sl (s : Sl) (xs : List Nat) : Fp := fun j => ¬ Av s j xs
theorem Fp.not_or {S T : Fp} {i : Nat} (a : ¬ S i) (b : ¬ T i) : ¬ (Fp.or S T) i := fun h => h.elim a b
theorem Fp.not_no {i : Nat} : ¬ Fp.no i := fun h => h
theorem Fp.not_below {n i : Nat} (h : n ≤ i) : ¬ (Fp.below n) i := fun k => by
 have : i < n := k
 omega
theorem Fp.not_from {n i : Nat} (h : i < n) : ¬ (Fp.from n) i := fun k => by
 have : n ≤ i := k
 omega
theorem Fp.not_sl {s : Sl} {xs : List Nat} {i : Nat} (a : Av s i xs) : ¬ (Fp.sl s xs) i := fun k => k a
def NotO (S : Fp) : Option Nat → Prop
 | none => True
 | some k => ¬ S k
theorem NotO.or {S T : Fp} : ∀ {i : Option Nat}, NotO S i → NotO T i → NotO (Fp.or S T) i
 | none, _, _ => trivial
 | some _, a, b => Fp.not_or a b
theorem NotO.no : ∀ {i : Option Nat}, NotO Fp.no i
 | none => trivial
 | some _ => Fp.not_no
theorem NotO.below {n : Nat} : ∀ {i : Option Nat}, LeO n i → NotO (Fp.below n) i
 | none, _ => trivial
 | some _, l => Fp.not_below l
theorem NotO.from {n : Nat} : ∀ {i : Option Nat}, LtO n i → NotO (Fp.from n) i
 | none, _ => trivial
 | some _, l => Fp.not_from l
theorem NotO.sl {s : Sl} {xs : List Nat} : ∀ {i : Option Nat}, AvO s xs i → NotO (Fp.sl s xs) i
 | none, _ => trivial
 | some _, l => Fp.not_sl l
theorem NotO.mono {S T : Fp} (h : ∀ j, S j → T j) : ∀ {i : Option Nat}, NotO T i → NotO S i
 | none, _ => trivial
 | some _, l => fun k => l (h _ k)
structure Ef (α : Type) where
 w : Nat
 pos : 0 < w
 has : AH → Fp → List AV → α → Prop
 len : ∀ {h : AH} {S : Fp} {cs : List AV} {a : α}, has h S cs a → cs.length = w
 grow : ∀ {h h' : AH} {S : Fp} {cs : List AV} {a : α}, Grow h h' → has h S cs a → has h' S cs a
 mono : ∀ {h : AH} {S T : Fp} {cs : List AV} {a : α}, (∀ j, S j → T j) → has h S cs a → has h T cs a
 upd : ∀ {h h' : AH} {S : Fp} {i : Nat} {cs : List AV} {a : α}, ¬ S i → Upd h h' i → has h S cs a → has h' S cs a
 bound : ∀ {h : AH} {S : Fp} {cs : List AV} {a : α}, has h S cs a → has h (fun j => S j ∧ j < h.blks.size) cs a
theorem Ef.updo {α : Type} (E : Ef α) {h h' : AH} {S : Fp} {cs : List AV} {a : α} : ∀ {i : Option Nat}, NotO S i → UpdO h h' i → E.has h S cs a → E.has h' S cs a
 | none, _, u, e => E.grow u e
 | some _, n, u, e => E.upd n u e
def Ef.int (k : IntKind) : Ef Int where
 w := 1
 pos := by decide
 has _ _ cs n := cs = [.int k n]
 len e := by rw [e]; rfl
 grow _ e := e
 mono _ e := e
 upd _ _ e := e
 bound e := e
def Ef.bool : Ef Bool where
 w := 1
 pos := by decide
 has _ _ cs b := cs = [.bool b]
 len e := by rw [e]; rfl
 grow _ e := e
 mono _ e := e
 upd _ _ e := e
 bound e := e
def Ef.str : Ef ByteArray where
 w := 1
 pos := by decide
 has _ _ cs b := cs = [.str b]
 len e := by rw [e]; rfl
 grow _ e := e
 mono _ e := e
 upd _ _ e := e
 bound e := e
def Ef.nats : Ef (List Nat) where
 w := 1
 pos := by decide
 has h S cs xs := ∃ s, cs = [Sl.v s] ∧ Nats h s xs ∧ ∀ j, ¬ Av s j xs → S j
 len := fun ⟨s, e, _, _⟩ => by rw [e]; rfl
 grow g := fun ⟨s, e, n, a⟩ => ⟨s, e, n.grow g, a⟩
 mono m := fun ⟨s, e, n, a⟩ => ⟨s, e, n, fun j k => m j (a j k)⟩
 upd no u := fun ⟨s, e, n, a⟩ => ⟨s, e, n.upda (Classical.byContradiction fun k => no (a _ k)) u, a⟩
 bound := fun {h} _ _ _ ⟨s, e, n, a⟩ => ⟨s, e, n, fun j k => ⟨a j k, by
  rcases Nat.lt_or_ge j h.blks.size with h1 | h1
  ·exact h1
  ·exact absurd (Av.of_base n h1) k⟩⟩
def Ef.pair {α β : Type} (A : Ef α) (B : Ef β) : Ef (α × β) where
 w := A.w + B.w
 pos := by have := A.pos; omega
 has h S cs p := ∃ c1 c2, cs = c1 ++ c2 ∧ A.has h S c1 p.1 ∧ B.has h S c2 p.2
 len := fun ⟨c1, c2, e, a, b⟩ => by rw [e, List.length_append, A.len a, B.len b]
 grow g := fun ⟨c1, c2, e, a, b⟩ => ⟨c1, c2, e, A.grow g a, B.grow g b⟩
 mono m := fun ⟨c1, c2, e, a, b⟩ => ⟨c1, c2, e, A.mono m a, B.mono m b⟩
 upd no u := fun ⟨c1, c2, e, a, b⟩ => ⟨c1, c2, e, A.upd no u a, B.upd no u b⟩
 bound := fun ⟨c1, c2, e, a, b⟩ => ⟨c1, c2, e, A.bound a, B.bound b⟩
theorem All2.set {α β : Type} {R : α → β → Prop} {l : List α} {m : List β} (a : All2 R l m) {x : α} {y : β} (h : R x y) : ∀ j : Nat, All2 R (l.set j x) (m.set j y) := by
 induction a with
 | nil => intro j; exact .nil
 | cons h1 h2 ih =>
  intro j
  cases j with
  | zero => exact .cons h h2
  | succ j => exact .cons h1 (ih j)
def RefIn (S : Fp) (s : Sl) (n : Nat) : Prop := n = 0 ∨ ∀ j o, s.ref = some (.new j o) → S j
structure Sq {α : Type} (E : Ef α) (h : AH) (S : Fp) (s : Sl) (xs : List α) : Prop where
 rows : ∃ rows, Cells h s E.w rows.flatten ∧ All2 (E.has h S) rows xs
 len : s.len = xs.length
 short : xs.length ≤ 9223372036854775807
 at' : RefIn S s xs.length
variable {α : Type} {E : Ef α}
theorem Ef.rows {h : AH} {S : Fp} {rows : List (List AV)} {xs : List α} (a : All2 (E.has h S) rows xs) : ∀ r ∈ rows, r.length = E.w := by
 induction a with
 | nil => simp
 | cons h' _ ih =>
  intro r hr
  rcases List.mem_cons.1 hr with rfl | hr
  ·exact E.len h'
  ·exact ih r hr
theorem Cells.updn {h h' : AH} {s : Sl} {n : Nat} {flat : List AV} (c : Cells h s n flat) {i : Nat} (hi : ∀ o, s.ref ≠ some (.new i o)) (u : Upd h h' i) : Cells h' s n flat :=
 ⟨c.fit, c.len, fun k v hv => by
  obtain ⟨r, e1, e2⟩ := c.get k v hv
  refine ⟨r, e1, u.cell e2 fun o he => ?_⟩
  cases r with
  | old a => cases he
  | new j p =>
   simp only [Ref.add_new, Ref.new.injEq] at he
   exact hi p (by rw [e1, he.1])⟩
theorem Sq.grow {h h' : AH} {S : Fp} {s : Sl} {xs : List α} (n : Sq E h S s xs) (g : Grow h h') : Sq E h' S s xs := by
 obtain ⟨⟨rows, c, a⟩, l, sh, at'⟩ := n
 exact ⟨⟨rows, c.grow g, a.imp fun _ _ => E.grow g⟩, l, sh, at'⟩
theorem Sq.mono {h : AH} {S T : Fp} {s : Sl} {xs : List α} (n : Sq E h S s xs) (m : ∀ j, S j → T j) : Sq E h T s xs := by
 obtain ⟨⟨rows, c, a⟩, l, sh, at'⟩ := n
 exact ⟨⟨rows, c, a.imp fun _ _ => E.mono m⟩, l, sh, at'.imp id fun f j o e => m j (f j o e)⟩
theorem Sq.nil (E : Ef α) (h : AH) (S : Fp) : Sq E h S ⟨none, 0, .is 0⟩ [] := ⟨⟨[], Cells.nil h _, .nil⟩, rfl, by simp, .inl rfl⟩
theorem Sq.upd {h h' : AH} {S : Fp} {s : Sl} {xs : List α} (n : Sq E h S s xs) {i : Nat} (no : ¬ S i) (u : Upd h h' i) : Sq E h' S s xs := by
 obtain ⟨⟨rows, c, a⟩, l, sh, at'⟩ := n
 refine ⟨⟨rows, ?_, a.imp fun _ _ => E.upd no u⟩, l, sh, at'⟩
 rcases at' with e | f
 ·have hr : rows.length = 0 := by rw [All2.length a, e]
  have hr : rows = [] := List.length_eq_zero_iff.1 hr
  subst hr
  exact ⟨c.fit, c.len, fun k v hv => by simp at hv⟩
 ·exact c.updn (fun o ho => no (f i o ho)) u
theorem Sq.updo {h h' : AH} {S : Fp} {s : Sl} {xs : List α} (n : Sq E h S s xs) : ∀ {i : Option Nat}, NotO S i → UpdO h h' i → Sq E h' S s xs
 | none, _, u => n.grow u
 | some _, no, u => n.upd no u
theorem Sq.bound {h : AH} {S : Fp} {s : Sl} {xs : List α} (n : Sq E h S s xs) : Sq E h (fun j => S j ∧ j < h.blks.size) s xs := by
 obtain ⟨⟨rows, c, a⟩, l, sh, at'⟩ := n
 refine ⟨⟨rows, c, a.imp fun _ _ => E.bound⟩, l, sh, ?_⟩
 rcases Nat.eq_zero_or_pos xs.length with e | e
 ·exact .inl e
 ·refine .inr fun j o hj => ⟨(at'.resolve_left (by omega)) j o hj, ?_⟩
  have hf := kdx (w := E.w) (rows := rows) (Ef.rows a)
  have h0 : 0 < rows.flatten.length := by
   rw [hf, All2.length a]
   exact Nat.mul_pos e E.pos
  obtain ⟨r, e1, e2⟩ := c.get 0 _ (List.getElem?_eq_getElem h0)
  rw [hj] at e1
  cases e1
  have := AH.cell_inn e2
  rw [Ref.add_new] at this
  exact this
def Ef.seq {α : Type} (E : Ef α) : Ef (List α) where
 w := 1
 pos := by decide
 has h S cs xs := ∃ s, cs = [Sl.v s] ∧ Sq E h S s xs
 len := fun ⟨s, e, _⟩ => by rw [e]; rfl
 grow g := fun ⟨s, e, n⟩ => ⟨s, e, n.grow g⟩
 mono m := fun ⟨s, e, n⟩ => ⟨s, e, n.mono m⟩
 upd no u := fun ⟨s, e, n⟩ => ⟨s, e, n.upd no u⟩
 bound := fun ⟨s, e, n⟩ => ⟨s, e, n.bound⟩
theorem Sq.at {h : AH} {S : Fp} {s : Sl} {xs : List α} (n : Sq E h S s xs) {i : Int} {y : α} (q : atX xs i = some y) : ∃ (r : Ref) (cs : List AV), idx s.ref xs.length i E.w = some r ∧ E.has h S cs y ∧ Lies h r cs := by
 obtain ⟨⟨rows, c, a⟩, l, sh, at'⟩ := n
 obtain ⟨j, rfl, hj⟩ := ku0 q
 obtain ⟨cs, e1, e2⟩ := a.get hj
 have hjl := (List.getElem?_eq_some_iff.1 hj).1
 have hr := Ef.rows a
 have key : ∀ k v, cs[k]? = some v → ∃ r, s.ref = some r ∧ h.cell (r.add (j * E.w + k)) = some v := fun k v hk => c.get _ _ (kkz hr e1 hk)
 cases hs : s.ref with
 | none =>
  exfalso
  cases cs with
  | nil => have := E.len e2; have := E.pos; simp at *; omega
  | cons v vs =>
   obtain ⟨r, e, _⟩ := key 0 v rfl
   rw [hs] at e
   cases e
 | some r =>
  refine ⟨r.add (j * E.w), cs, ?_, e2, ⟨fun k v hk => ?_⟩⟩
  ·rw [kda _ _ _ _ (by omega) (by omega)]
   simp
  ·obtain ⟨r', e, e'⟩ := key k v hk
   rw [hs] at e
   cases e
   rw [Ref.add_add]
   exact e'
theorem Sq.lit {h : AH} {S : Fp} {i n : Nat} {rows : List (List AV)} {e : TypeId} {xs : List α} (b : h.has i rows.flatten e) (a : All2 (E.has h S) rows xs) (hn : xs.length = n) (hs : n ≤ 9223372036854775807 := by decide) : Sq E h (Fp.or (fun j => j = i) S) ⟨some (.new i 0), n, .is n⟩ xs := by
 refine ⟨⟨rows, Cells.of_has b ?_, a.imp fun _ _ => E.mono fun j k => .inr k⟩, hn.symm, by omega, .inr fun j o e => ?_⟩
 ·rw [kdx (Ef.rows a), All2.length a, hn]
 ·cases e
  exact .inl rfl
def GF {α : Type} (E : Ef α) (elem : TypeId) (h : AH) (S : Fp) (s : Sl) (i : Option Nat) (xs : List α) : Prop :=
 xs.length ≤ 9223372036854775807 ∧ match i with
 | none => s = ⟨none, 0, .is 0⟩ ∧ xs = []
 | some k => ¬ S k ∧ s.ref = some (.new k 0) ∧ s.len = xs.length ∧ ∃ rows e, h.has k rows.flatten e ∧ (s.cap = .is s.len ∨ s.cap = .opn E.w ∧ e = elem) ∧ All2 (E.has h S) rows xs
variable {elem : TypeId}
theorem GF.none (E : Ef α) (elem : TypeId) (h : AH) (S : Fp) : GF E elem h S ⟨none, 0, .is 0⟩ none [] := ⟨by simp, rfl, rfl⟩
theorem GF.one {h : AH} {S : Fp} {i : Nat} {cs : List AV} {x : α} {e : TypeId} (b : h.has i cs e) (c : E.has h S cs x) (a : ¬ S i) : GF E elem h S ⟨some (.new i 0), 1, .is 1⟩ (some i) [x] :=
 ⟨by simp, a, rfl, rfl, [cs], e, by simpa using b, .inl rfl, .cons c .nil⟩
theorem GF.lit {h : AH} {S : Fp} {i n : Nat} {rows : List (List AV)} {xs : List α} {e : TypeId} (b : h.has i rows.flatten e) (c : All2 (E.has h S) rows xs) (a : ¬ S i) (hn : xs.length = n) (hs : n ≤ 9223372036854775807 := by decide) : GF E elem h S ⟨some (.new i 0), n, .is n⟩ (some i) xs :=
 ⟨by omega, a, rfl, hn.symm, rows, e, b, .inl rfl, c⟩
theorem GF.grow {h h' : AH} {S : Fp} {s : Sl} : ∀ {i : Option Nat} {xs : List α}, GF E elem h S s i xs → Grow h h' → GF E elem h' S s i xs
 | .none, _, v, g => v
 | .some k, _, ⟨l, a, r, ln, rows, e, b, c, r2⟩, g => ⟨l, a, r, ln, rows, e, g.has b, c, r2.imp fun _ _ => E.grow g⟩
theorem GF.lt {h : AH} {S : Fp} {s : Sl} : ∀ {i : Option Nat} {xs : List α}, GF E elem h S s i xs → LtO h.blks.size i
 | .none, _, _ => trivial
 | .some k, _, ⟨l, a, r, ln, rows, e, b, c, r2⟩ => b.lt
theorem GF.mono {h : AH} {S T : Fp} {s : Sl} : ∀ {i : Option Nat} {xs : List α}, GF E elem h S s i xs → (∀ j, S j → T j) → NotO T i → GF E elem h T s i xs
 | .none, _, v, _, _ => v
 | .some k, _, ⟨l, a, r, ln, rows, e, b, c, r2⟩, m, no => ⟨l, no, r, ln, rows, e, b, c, r2.imp fun _ _ => E.mono m⟩
theorem GF.bound {h : AH} {S : Fp} {s : Sl} : ∀ {i : Option Nat} {xs : List α}, GF E elem h S s i xs → GF E elem h (fun j => S j ∧ j < h.blks.size) s i xs
 | .none, _, v => v
 | .some k, _, ⟨l, a, r, ln, rows, e, b, c, r2⟩ => ⟨l, fun x => a x.1, r, ln, rows, e, b, c, r2.imp fun _ _ => E.bound⟩
def Fp.opt (i : Option Nat) : Fp := fun j => i = some j
theorem GF.sq {h : AH} {S : Fp} {s : Sl} : ∀ {i : Option Nat} {xs : List α}, GF E elem h S s i xs → Sq E h (Fp.or (Fp.opt i) S) s xs
 | .none, xs, ⟨_, e1, e2⟩ => by
  subst e1; subst e2
  exact Sq.nil E h _
 | .some k, _, ⟨l, a, r, ln, rows, e, b, c, r2⟩ => by
  have hc := Cells.of_has (n := E.w) (m := s.len) b (by rw [kdx (Ef.rows r2), All2.length r2, ln])
  refine ⟨⟨rows, ⟨?_, ?_, ?_⟩, r2.imp fun _ _ => E.mono fun j x => .inr x⟩, ln, l, .inr fun j o ho => ?_⟩
  ·rcases c with c | c
   ·unfold Sl.fit; rw [c]; exact Nat.le_refl _
   ·unfold Sl.fit; rw [c.1]
  ·exact hc.len
  ·rw [r]; exact hc.get
  ·rw [r] at ho
   cases ho
   exact .inl rfl
theorem GF.len {h : AH} {S : Fp} {s : Sl} {i : Option Nat} {xs : List α} (v : GF E elem h S s i xs) : s.len = xs.length := v.sq.len
theorem GF.own {h h0 : AH} {S : Fp} {s : Sl} : ∀ {i : Option Nat} {xs : List α}, GF E elem h S s i xs → LeO h0.blks.size i → Own h0 s
 | .none, _, v, _ => fun r hr => by rw [v.2.1] at hr; cases hr
 | .some k, _, ⟨_, _, r, _⟩, l => fun q hq => by
  rw [r] at hq
  cases hq
  exact ⟨k, 0, rfl, l⟩
theorem GF.upd {h h' : AH} {S : Fp} {s : Sl} {i : Nat} (u : Upd h h' i) (no : ¬ S i) : ∀ {j : Option Nat} {xs : List α}, GF E elem h S s j xs → (∀ k, j = some k → k ≠ i) → GF E elem h' S s j xs
 | .none, _, v, _ => v
 | .some k, _, ⟨l, a, r, ln, rows, e, b, c, r2⟩, ne => ⟨l, a, r, ln, rows, e, b.updr (ne k rfl) u, c, r2.imp fun _ _ => E.upd no u⟩
theorem GF.updo {h h' : AH} {S : Fp} {s : Sl} {j : Option Nat} {xs : List α} (v : GF E elem h S s j xs) : ∀ {i : Option Nat}, NotO S i → NeOO j i → UpdO h h' i → GF E elem h' S s j xs
 | .none, _, _, u => v.grow u
 | .some i, no, ne, u => v.upd u no fun k e => by
  subst e
  exact ne
theorem GF.set {h : AH} {S T : Fp} {s : Sl} {i : Option Nat} {xs : List α} (v : GF E elem h S s i xs) {cs : List AV} {x : α} (c : E.has h T cs x) (no : NotO T i) {z : Int} {j : Nat} (q : inI xs.length z = some j) :
  ∃ r h', idx s.ref xs.length z E.w = some r ∧ h.puts r cs = some h' ∧ GF E elem h' (Fp.or S T) s i (xs.set j x) ∧ UpdO h h' i := by
 obtain ⟨hz, hj⟩ := km8 q
 cases i with
 | none =>
  obtain ⟨_, e1, e2⟩ := v
  subst e2
  simp at hj
 | some k =>
  obtain ⟨l, a, r, ln, rows, e, b, cp, r2⟩ := v
  have hrl := All2.length r2
  have hr := Ef.rows r2
  have hw := E.len c
  have hfl := kdx hr
  have hle : j * E.w + cs.length ≤ rows.flatten.length := by
   rw [hfl, hw, ← Nat.succ_mul]
   exact Nat.mul_le_mul_right _ (by omega)
  have hfl2 : ∀ (rs : List (List AV)) (n : Nat), (∀ r ∈ rs, r.length = E.w) → rs.flatten.take (n * E.w) = (rs.take n).flatten ∧ rs.flatten.drop (n * E.w) = (rs.drop n).flatten := by
   intro rs
   induction rs with
   | nil => intro n _; simp
   | cons r rs ih =>
    intro n hh
    cases n with
    | zero => simp
    | succ n =>
     have h1 := ih n fun q hq => hh q (by simp [hq])
     have h2 := hh r (by simp)
     rw [Nat.succ_mul, List.flatten_cons, List.take_succ_cons, List.drop_succ_cons, List.flatten_cons, ← h1.1, ← h1.2]
     constructor
     ·rw [List.take_append, h2, List.take_of_length_le (by omega), Nat.add_sub_cancel]
     ·rw [List.drop_append, h2, List.drop_eq_nil_of_le (by omega), Nat.add_sub_cancel, List.nil_append]
  have key : rows.flatten.take (j * E.w) ++ cs ++ rows.flatten.drop (j * E.w + cs.length) = (rows.set j cs).flatten := by
   have h3 : j * E.w + cs.length = (j + 1) * E.w := by rw [hw, Nat.succ_mul]
   rw [h3, (hfl2 rows j hr).1, (hfl2 rows (j + 1) hr).2, List.set_eq_take_append_cons_drop, if_pos (by omega)]
   simp
  refine ⟨.new k (j * E.w), h.upd k (rows.set j cs).flatten e, ?_, ?_, ⟨by simpa using l, fun x => x.elim a no, r, by simpa using ln, rows.set j cs, e, AH.has_upd b _ _, cp, ?_⟩, AH.upd_Upd h k _ e⟩
  ·rw [r, hz, kda _ _ _ _ (by omega) (by omega)]
   simp
  ·rw [b.puts hle, key]
  ·have : All2 (fun cs a => E.has h (Fp.or S T) cs a) (rows.set j cs) (xs.set j x) := All2.set (r2.imp fun _ _ => E.mono fun j k => .inl k) (E.mono (fun j k => .inr k) c) j
   exact this.imp fun _ _ y => E.upd (fun x => x.elim a no) (AH.upd_Upd h k _ e) y
theorem GF.push {h : AH} {S T : Fp} {s : Sl} {i : Option Nat} {xs : List α} (v : GF E elem h S s i xs) {cs : List AV} {x : α} (c : E.has h T cs x) (no : NotO T i) (hg : growOk P (xs.length + 1) elem E.w = true) :
  ∃ s' h', kr P s cs 1 elem E.w h = some (s'.v, h') ∧ GF E elem h' (fun j => (Fp.or S T) j ∧ j < h.blks.size) s' (some h.blks.size) (xs ++ [x]) ∧ UpdO h h' i := by
 have hl := kqj hg
 have hw := E.len c
 have nS : ¬ ((Fp.or S T) h.blks.size ∧ h.blks.size < h.blks.size) := fun k => Nat.lt_irrefl _ k.2
 cases i with
 | none =>
  obtain ⟨_, e1, e2⟩ := v
  subst e1; subst e2
  rw [kgo (c := 0) rfl (by simp) (by simpa using hg) (Cells.nil h E.w)]
  refine ⟨_, _, rfl, ⟨by simp, nS, rfl, by simp, [cs], elem, ?_, .inr ⟨rfl, rfl⟩, .cons ?_ .nil⟩, Grow.push _ _⟩
  ·simpa using AH.has_push h cs elem
  ·refine E.grow (Grow.push _ _) (E.mono (fun j k => ⟨.inr k.1, k.2⟩) (E.bound c))
 | some k =>
  have sq := v.sq
  obtain ⟨l, a, r, ln, rows, e, b, cp, r2⟩ := v
  have hr := Ef.rows r2
  have cc : Cells h s E.w rows.flatten := by
   have hc := Cells.of_has (n := E.w) (m := s.len) b (by rw [kdx hr, All2.length r2, ln])
   refine ⟨?_, hc.len, by rw [r]; exact hc.get⟩
   rcases cp with c | c
   ·unfold Sl.fit; rw [c]; exact Nat.le_refl _
   ·unfold Sl.fit; rw [c.1]
  rw [← ln] at hg
  rcases cp with ce | ⟨ce, rfl⟩
  ·rw [kgo ce (by omega) hg cc]
   refine ⟨_, _, rfl, ⟨by simpa using hl, nS, rfl, by simp [ln], rows ++ [cs], elem, ?_, .inr ⟨rfl, rfl⟩, All2.snoc (r2.imp fun _ _ y => ?_) ?_⟩, (Grow.push _ _).toUpd k⟩
   ·have := AH.has_push h (rows.flatten ++ cs) elem
    simpa using this
   ·exact E.grow (Grow.push _ _) (E.mono (fun j q => ⟨.inl q.1, q.2⟩) (E.bound y))
   ·exact E.grow (Grow.push _ _) (E.mono (fun j q => ⟨.inr q.1, q.2⟩) (E.bound c))
  ·have hap : kr P s cs 1 e E.w h = some (Sl.v ⟨some (.new h.blks.size 0), s.len + 1, .opn E.w⟩, (h.kill s.ref).push (.cells (rows.flatten ++ cs) e)) := by
    unfold kr
    simp only [ce]
    rw [show Nat.beq 1 0 = false from rfl, show Nat.beq E.w E.w = true from Nat.beq_refl _]
    simp only [cond_false, hg, Bool.and_true, cond_true, r, show h.blks[k]? = _ from b]
    have hgets := cc.gets
    rw [r] at hgets
    simp only [hgets, Option.bind_some]
    rw [show Nat.beq e e = true from Nat.beq_refl _, cond_true]
    have : (AH.kill h (some (Ref.new k 0))).blks.size = h.blks.size := by simp [AH.kill]
    simp [AH.next, this, Sl.v]
    rfl
   rw [hap, r]
   have sz : (h.kill (some (.new k 0))).blks.size = h.blks.size := by simp [AH.kill]
   have u : Upd h (h.kill (some (.new k 0))) k := AH.kill_Upd h k
   refine ⟨_, _, rfl, ⟨by simpa using hl, nS, rfl, by simp [ln], rows ++ [cs], e, ?_, .inr ⟨rfl, rfl⟩, All2.snoc (r2.imp fun _ _ y => ?_) ?_⟩, u.trans ((Grow.push _ _).toUpd k)⟩
   ·have := AH.has_push (h.kill (some (.new k 0))) (rows.flatten ++ cs) e
    rw [sz] at this
    simpa using this
   ·exact E.grow (Grow.push _ _) (E.mono (fun j q => ⟨.inl q.1, q.2⟩) (E.upd (fun q => a q.1) u (E.bound y)))
   ·exact E.grow (Grow.push _ _) (E.mono (fun j q => ⟨.inr q.1, q.2⟩) (E.upd (fun q => no q.1) u (E.bound c)))
end Go.Ab

/- squeezed -/
set_option linter.unusedVariables false
set_option linter.unusedSimpArgs false
namespace Go.Ab
variable {P : Program}
theorem kv5 {h : AH} : ∀ (n : Nat) {r : Ref} {es : List AV}, h.gets r n = some es → es.length = n ∧ ∀ (k : Nat) (v : AV), es[k]? = some v → h.cell (r.add k) = some v
 | 0, r, es, e => by
  simp only [AH.gets, Option.some.injEq] at e
  subst e
  exact ⟨rfl, fun k v hv => by simp at hv⟩
 | n + 1, r, es, e => by
  simp only [AH.gets, Option.bind_eq_some_iff, Option.map_eq_some_iff] at e
  obtain ⟨v, e1, l, e2, rfl⟩ := e
  obtain ⟨h1, h2⟩ := kv5 n e2
  refine ⟨by simp [h1], fun k u hu => ?_⟩
  cases k with
  | zero =>
   simp at hu
   subst hu
   rw [Ref.add_zero]
   exact e1
  | succ k =>
   have := h2 k u (by simpa using hu)
   rw [← this, Ref.add_add, Nat.add_comm]
theorem Sq.of_arg {α : Type} {E : Ef α} {S : Fp} {h : AH} {t e : TypeId} {cs : List AV} (hu : P.underlying t = some (.slice e)) (hw : P.cellsOf e = E.w) (elem : ∀ es, ArgT P h e es → ∃ a, E.has h S es a) (a : ArgT P h t cs) : ∃ (s : Sl) (xs : List α), cs = [s.v] ∧ Sq E h S s xs := by
 rcases a.slice hu with rfl | ⟨ad, len, cap, rfl, h1, h2, h3⟩
 ·exact ⟨⟨none, 0, .is 0⟩, [], rfl, Sq.nil _ _ _⟩
 ·rw [hw] at h3
  have mk : ∀ n, n ≤ len → ∃ (rows : List (List AV)) (xs : List α), rows.length = n ∧ All2 (E.has h S) rows xs ∧ ∀ (i : Nat) (r : List AV), rows[i]? = some r → h.gets (.old (ad.add (i * E.w))) E.w = some r := by
   intro n
   induction n with
   | zero => exact fun _ => ⟨[], [], rfl, .nil, fun i r hi => by simp at hi⟩
   | succ n ih =>
    intro hn
    obtain ⟨rows, xs, hl, ha, hx⟩ := ih (by omega)
    obtain ⟨es, k1, k2⟩ := h3 n (by omega)
    obtain ⟨x, k3⟩ := elem es k2
    refine ⟨rows ++ [es], xs ++ [x], by simp [hl], ha.snoc k3, fun i r hi => ?_⟩
    by_cases hin : i < rows.length
    ·rw [List.getElem?_append_left hin] at hi
     exact hx i r hi
    ·rw [List.getElem?_append_right (by omega)] at hi
     have : i = n := by
      rcases Nat.eq_zero_or_pos (i - rows.length) with h0 | h0
      ·omega
      ·rw [List.getElem?_eq_none (by simp; omega)] at hi
       cases hi
     subst this
     rw [hl, Nat.sub_self] at hi
     simp at hi
     subst hi
     exact k1
  obtain ⟨rows, xs, hl, ha, hx⟩ := mk len (Nat.le_refl _)
  have hr := Ef.rows ha
  have hlen := All2.length ha
  refine ⟨⟨some (.old ad), len, .is cap⟩, xs, rfl, ⟨⟨rows, ⟨h1, by rw [kdx hr, hl], fun k v hv => ⟨_, rfl, ?_⟩⟩, ha⟩, by rw [← hlen, hl], ?_, .inr fun j o hj => by cases hj⟩⟩
  ·have hk : k < rows.length * E.w := by
    rw [← kdx hr]
    exact (List.getElem?_eq_some_iff.1 hv).1
   have hi : k / E.w < rows.length := Nat.div_lt_of_lt_mul (by rw [Nat.mul_comm]; exact hk)
   have hj : k % E.w < E.w := Nat.mod_lt _ E.pos
   have e1 := List.getElem?_eq_getElem hi
   have e2 : (rows[k / E.w])[k % E.w]? = some ((rows[k / E.w])[k % E.w]'(by rw [hr _ (List.getElem_mem _)]; exact hj)) := List.getElem?_eq_getElem _
   have e3 := kkz hr e1 e2
   have e4 : k / E.w * E.w + k % E.w = k := by
    rw [Nat.mul_comm]
    exact Nat.div_add_mod k E.w
   rw [e4, hv] at e3
   have e5 := (kv5 E.w (hx _ _ e1)).2 _ _ e2
   rw [← Option.some.inj e3] at e5
   have e6 : (Ref.old (ad.add (k / E.w * E.w))).add (k % E.w) = (Ref.old ad).add k := by
    rw [show Ref.old (ad.add (k / E.w * E.w)) = (Ref.old ad).add (k / E.w * E.w) from rfl, Ref.add_add, e4]
   rw [← e6]
   exact e5
  ·have hm : maxLen = 9223372036854775807 := by decide
   rw [← hlen, hl]
   rw [hm] at h2
   exact Nat.le_trans h1 h2
end Go.Ab

/- squeezed -/
set_option linter.unusedVariables false
set_option linter.unusedSimpArgs false
namespace Go.Ab
theorem All2.drop {α β : Type} {R : α → β → Prop} {l : List α} {m : List β} (a : All2 R l m) : ∀ k : Nat, All2 R (l.drop k) (m.drop k) := by
 induction a with
 | nil => intro k; simp; exact .nil
 | cons h t ih =>
  intro k
  cases k with
  | zero => exact .cons h t
  | succ k => exact ih k
theorem All2.take {α β : Type} {R : α → β → Prop} {l : List α} {m : List β} (a : All2 R l m) : ∀ k : Nat, All2 R (l.take k) (m.take k) := by
 induction a with
 | nil => intro k; simp; exact .nil
 | cons h t ih =>
  intro k
  cases k with
  | zero => exact .nil
  | succ k => exact .cons h (ih k)
theorem All2.append {α β : Type} {R : α → β → Prop} {l l' : List α} {m m' : List β} (a : All2 R l m) (b : All2 R l' m') : All2 R (l ++ l') (m ++ m') := by
 induction a with
 | nil => exact b
 | cons h t ih => exact .cons h ih
theorem kti {w : Nat} : ∀ {rows : List (List AV)}, (∀ r ∈ rows, r.length = w) → ∀ k : Nat, rows.flatten.drop (k * w) = (rows.drop k).flatten
 | [], _, k => by simp
 | r :: rows, h, 0 => by simp
 | r :: rows, h, k + 1 => by
  rw [List.flatten_cons, List.drop_succ_cons, ← kti (fun q hq => h q (by simp [hq])) k, Nat.add_mul, Nat.one_mul, Nat.add_comm, ← List.drop_drop, List.drop_left' (h r (by simp))]
theorem kq5 {w : Nat} : ∀ {rows : List (List AV)}, (∀ r ∈ rows, r.length = w) → ∀ k : Nat, rows.flatten.take (k * w) = (rows.take k).flatten
 | [], _, k => by simp
 | r :: rows, h, 0 => by simp
 | r :: rows, h, k + 1 => by
  rw [List.flatten_cons, List.take_succ_cons, List.flatten_cons, ← kq5 (fun q hq => h q (by simp [hq])) k, Nat.add_mul, Nat.one_mul, Nat.add_comm (k * w)]
  have hr := h r (by simp)
  rw [List.take_append, List.take_of_length_le (by omega), hr]
  congr 2
  omega
theorem k5j {s s' : Sl} {l m : Int} {w : Nat} (e : cutSl s l m w = some s') {j o : Nat} (hr : s'.ref = some (.new j o)) : ∃ o', s.ref = some (.new j o') := by
 have key : ∀ {a : Nat}, (s.ref.map (·.add a)) = some (Ref.new j o) → ∃ o', s.ref = some (.new j o') := fun {a} h => by
  cases hs : s.ref with
  | none => rw [hs] at h; cases h
  | some r =>
   rw [hs, Option.map_some, Option.some.injEq] at h
   cases r with
   | new i p =>
    simp only [Ref.add_new, Ref.new.injEq] at h
    exact ⟨p, by rw [h.1]⟩
   | old a' => cases h
 unfold cutSl at e
 split at e
 ·rename_i c hc
  cases hd : decide (0 ≤ l ∧ l ≤ m ∧ m ≤ (c : Int)) with
  | false => rw [hd] at e; cases e
  | true =>
   rw [hd, cond_true, Option.some.injEq] at e
   rw [← e] at hr
   dsimp only at hr
   split at hr
   ·exact ⟨o, hr⟩
   ·exact key hr
 ·rename_i sz hc
  cases hb : Nat.beq sz w with
  | false => rw [hb] at e; cases e
  | true =>
   rw [hb, cond_true] at e
   cases hd : decide (0 ≤ l ∧ l ≤ m ∧ m ≤ (s.len : Int)) with
   | false => rw [hd] at e; cases e
   | true =>
    rw [hd, cond_true, Option.some.injEq] at e
    rw [← e] at hr
    exact key hr
theorem Sq.cut {α : Type} {E : Ef α} {h : AH} {S : Fp} {s : Sl} {xs : List α} (n : Sq E h S s xs) {l m : Nat} (h1 : l ≤ m) (h2 : m ≤ xs.length) : ∃ s', cutSl s (l : Int) (m : Int) E.w = some s' ∧ Sq E h S s' ((xs.drop l).take (m - l)) ∧ ∀ h0, Own h0 s → Own h0 s' := by
 obtain ⟨⟨rows, c, a⟩, ln, sh, at'⟩ := n
 have hr := Ef.rows a
 obtain ⟨s', e, l', c', o⟩ := c.cut h1 (by rw [ln]; exact h2)
 refine ⟨s', e, ⟨⟨(rows.drop l).take (m - l), ?_, (a.drop l).take _⟩, by rw [l', List.length_take, List.length_drop]; omega, by rw [List.length_take, List.length_drop]; omega, ?_⟩, o⟩
 ·rw [← kq5 (fun r hr' => hr r (List.mem_of_mem_drop hr')), ← kti hr]
  exact c'
 ·rcases at' with h0 | h0
  ·left
   rw [List.length_take, List.length_drop]
   omega
  ·right
   intro j o' hj
   obtain ⟨o2, e2⟩ := k5j e hj
   exact h0 j o2 e2
end Go.Ab

/- squeezed -/
set_option linter.unusedVariables false
set_option linter.unusedSimpArgs false
namespace Go.Ab
theorem AH.setBlk_get {h : AH} {l : Nat} {b : ABlk} (hl : l < h.blks.size) : (h.setBlk l b).blks[l]? = some b := by
 simp [AH.setBlk, hl]
theorem AH.setBlk_ne {h : AH} {l i : Nat} {b : ABlk} (hi : i ≠ l) : (h.setBlk l b).blks[i]? = h.blks[i]? := by
 simp only [AH.setBlk]
 rw [Array.getElem?_setIfInBounds_ne (fun e => hi e.symm)]
theorem AH.setBlk_size (h : AH) (l : Nat) (b : ABlk) : (h.setBlk l b).blks.size = h.blks.size := by simp [AH.setBlk]
theorem Grow.setBlk {h h1 : AH} (g : Grow h h1) {l : Nat} (hl : h.blks.size ≤ l) (b : ABlk) : Grow h (h1.setBlk l b) :=
 ⟨g.old, by rw [AH.setBlk_size]; exact g.size, fun i hi => by rw [AH.setBlk_ne (by omega)]; exact g.blk i hi⟩
theorem kp4 {h : AH} {l : Nat} {pe : Option Code} {f : FuncId} {fr : Fr} {ps : Array Tmp} {bs bd : Code} {d : Nat} (hb : h.blks[l]? = some (.loop .ready pe f fr ps bs bd d)) :
  beginA l h = some (h.setBlk l (.loop .busy pe f fr ps bs bd d)) := by
 simp only [beginA, hb]
theorem knu {h : AH} {l : Nat} {st : LoopState} {pe : Option Code} {f : FuncId} {fr : Fr} {ps : Array Tmp} {bs bd : Code} {d : Nat} (hb : h.blks[l]? = some (.loop st pe f fr ps bs bd d)) (j : Option Code) :
  kb4 l j h = some (.bool j.isNone, h.setBlk l (.loop (cond j.isNone .ready .done) j f fr ps bs bd d)) := by
 simp only [kb4, hb]
theorem knc {h : AH} {l : Nat} {pe : Option Code} {f : FuncId} {fr : Fr} {ps : Array Tmp} {bs bd : Code} {d : Nat} (hb : h.blks[l]? = some (.loop .ready pe f fr ps bs bd d)) : ke9 l h = some (pe, h.setBlk l .dead) := by
 simp only [ke9, hb]
 rfl
theorem kn4 {R : Type} {f : FuncId} {a c : List AV} {k : FuncId → List AV → List AV → Option R} : funcK (.func (.func f) a c) k = k f a c := rfl
theorem Runs.newM {P : AV → AH → Prop} {h : AH} {b : ABlk} {K : Nat → AH → Option (AV × AH)} (H : ∀ h', h'.blks[h.blks.size]? = some b → Grow h h' → Runs (K h.blks.size h') P) : Runs (newM h b K) P :=
 H _ (by simp [AH.alloc]) (Grow.push h _)
end Go.Ab

/- squeezed -/
set_option linter.unusedVariables false
set_option linter.unusedSimpArgs false
namespace Go.Ab
variable {P : Program}
structure Md (T : Fp) (h h' : AH) : Prop where
 old : h'.old = h.old
 size : h.blks.size ≤ h'.blks.size
 blk : ∀ j, j < h.blks.size → ¬ T j → h'.blks[j]? = h.blks[j]?
theorem Md.refl (T : Fp) (h : AH) : Md T h h := ⟨rfl, Nat.le_refl _, fun _ _ _ => rfl⟩
theorem Grow.md {h h' : AH} (g : Grow h h') (T : Fp) : Md T h h' := ⟨g.old, g.size, fun j hj _ => g.blk j hj⟩
theorem Upd.md {h h' : AH} {i : Nat} (u : Upd h h' i) {T : Fp} (t : T i) : Md T h h' := ⟨u.old, u.size, fun j hj n => u.blk j (fun e => n (e ▸ t)) hj⟩
theorem UpdO.md {h h' : AH} {T : Fp} : ∀ {i : Option Nat}, UpdO h h' i → (∀ k, i = some k → T k) → Md T h h'
 | none, u, _ => Grow.md u T
 | some k, u, t => Upd.md u (t k rfl)
theorem Md.grow {h h' : AH} {T : Fp} (m : Md T h h') (n : ∀ j, j < h.blks.size → ¬ T j) : Grow h h' := ⟨m.old, m.size, fun j hj => m.blk j hj (n j hj)⟩
theorem Md.mono {h h' : AH} {S T : Fp} (m : Md S h h') (f : ∀ j, j < h.blks.size → S j → T j) : Md T h h' := ⟨m.old, m.size, fun j hj n => m.blk j hj fun s => n (f j hj s)⟩
theorem Md.next {h h1 h2 : AH} {S T : Fp} (a : Md S h h1) (b : Md T h1 h2) (f : ∀ j, j < h.blks.size → T j → S j) : Md S h h2 :=
 ⟨b.old.trans a.old, Nat.le_trans a.size b.size, fun j hj n => (b.blk j (Nat.lt_of_lt_of_le hj a.size) fun t => n (f j hj t)).trans (a.blk j hj n)⟩
theorem Md.trans {h h1 h2 : AH} {T : Fp} (a : Md T h h1) (b : Md T h1 h2) : Md T h h2 := a.next b fun _ _ t => t
theorem Md.thenG {h h1 h2 : AH} {T : Fp} (a : Md T h h1) (b : Grow h1 h2) : Md T h h2 := a.next (b.md Fp.no) fun _ _ t => t.elim
theorem Grow.thenM {h h1 h2 : AH} {T : Fp} (a : Grow h h1) (b : Md T h1 h2) : Md T h h2 := (a.md T).trans b
def Dis (S T : Fp) : Prop := ∀ j, S j → T j → False
theorem Dis.symm {S T : Fp} (d : Dis S T) : Dis T S := fun j a b => d j b a
theorem Dis.no {S : Fp} : Dis S Fp.no := fun _ _ b => b
theorem Dis.mono {S T S' T' : Fp} (d : Dis S T) (f : ∀ j, S' j → S j) (g : ∀ j, T' j → T j) : Dis S' T' := fun j a b => d j (f j a) (g j b)
theorem Md.has {h h' : AH} {T : Fp} (m : Md T h h') {i : Nat} {cs : List AV} {e : TypeId} (b : h.has i cs e) (n : ¬ T i) : h'.has i cs e := (m.blk i b.lt n).trans b
theorem Md.get {h h' : AH} {T : Fp} (m : Md T h h') {i : Nat} {b : ABlk} (e : h.blks[i]? = some b) (n : ¬ T i) : h'.blks[i]? = some b :=
 (m.blk i (Array.getElem?_eq_some_iff.1 e).1 n).trans e
theorem Md.cell {h h' : AH} {T : Fp} (m : Md T h h') {r : Ref} {v : AV} (hc : h.cell r = some v) (n : ∀ j o, r = .new j o → ¬ T j) : h'.cell r = some v := by
 have hi := AH.cell_inn hc
 cases r with
 | old a => simpa only [AH.cell, m.old] using hc
 | new j o => simpa only [AH.cell, m.blk j hi (n j o rfl)] using hc
theorem Own.md {h h1 : AH} {T : Fp} (m : Md T h h1) {s : Sl} (o : Own h1 s) : Own h s := fun q hq => by
 obtain ⟨j, k, e, l⟩ := o q hq
 exact ⟨j, k, e, Nat.le_trans m.size l⟩
def mixA (h h' : AH) (k : Nat) : AH := ⟨h'.old, ((List.range h.blks.size).map fun i => (if i < k then h'.blks[i]? else h.blks[i]?).getD .dead).toArray⟩
theorem kdz (h h' : AH) (k : Nat) : (mixA h h' k).blks.size = h.blks.size := by simp [mixA]
theorem kg8 {h h' : AH} {k i : Nat} (hs : h.blks.size ≤ h'.blks.size) (hi : i < h.blks.size) : (mixA h h' k).blks[i]? = if i < k then h'.blks[i]? else h.blks[i]? := by
 have hi' : i < h'.blks.size := Nat.lt_of_lt_of_le hi hs
 simp only [mixA, List.getElem?_toArray, List.getElem?_map, List.getElem?_range hi, Option.map_some]
 split
 ·rw [Array.getElem?_eq_getElem hi']; rfl
 ·rw [Array.getElem?_eq_getElem hi]; rfl
theorem Ef.md {α : Type} (E : Ef α) {h h' : AH} {S T : Fp} {cs : List AV} {a : α} (m : Md T h h') (d : Dis S T) (e : E.has h S cs a) : E.has h' S cs a := by
 have key : ∀ k, k ≤ h.blks.size → E.has (mixA h h' k) S cs a := by
  intro k
  induction k with
  | zero =>
   intro _
   refine E.grow ⟨m.old, by rw [kdz]; exact Nat.le_refl _, fun i hi => ?_⟩ e
   rw [kg8 m.size hi, if_neg (by omega)]
  | succ k ih =>
   intro hk
   have e' := ih (by omega)
   by_cases hS : S k
   ·have hT : ¬ T k := fun t => d k hS t
    refine E.grow (show Grow (mixA h h' k) (mixA h h' (k + 1)) from ⟨rfl, by rw [kdz, kdz]; exact Nat.le_refl _, fun i hi => ?_⟩) e'
    rw [kdz] at hi
    rw [kg8 m.size hi, kg8 m.size hi]
    by_cases h1 : i = k
    ·subst h1
     rw [if_pos (by omega), if_neg (by omega), m.blk i hi hT]
    ·by_cases h2 : i < k
     ·rw [if_pos (by omega), if_pos h2]
     ·rw [if_neg (by omega), if_neg h2]
   ·refine E.upd hS (show Upd (mixA h h' k) (mixA h h' (k + 1)) k from ⟨rfl, by rw [kdz, kdz]; exact Nat.le_refl _, fun i hne hi => ?_⟩) e'
    rw [kdz] at hi
    rw [kg8 m.size hi, kg8 m.size hi]
    by_cases h2 : i < k
    ·rw [if_pos (by omega), if_pos h2]
    ·rw [if_neg (by omega), if_neg h2]
 refine E.grow (show Grow (mixA h h' h.blks.size) h' from ⟨rfl, by rw [kdz]; exact m.size, fun i hi => ?_⟩) (key _ (Nat.le_refl _))
 rw [kdz] at hi
 rw [kg8 m.size hi, if_pos hi]
theorem Cells.md {h h' : AH} {s : Sl} {n : Nat} {flat : List AV} (c : Cells h s n flat) {T : Fp} (m : Md T h h') (no : ∀ j o, s.ref = some (.new j o) → ¬ T j) : Cells h' s n flat :=
 ⟨c.fit, c.len, fun k v hv => by
  obtain ⟨r, e1, e2⟩ := c.get k v hv
  refine ⟨r, e1, m.cell e2 fun j o he => ?_⟩
  cases r with
  | old a => cases he
  | new j' p =>
   simp only [Ref.add_new, Ref.new.injEq] at he
   obtain ⟨rfl, _⟩ := he
   exact no _ p e1⟩
section
variable {α : Type} {E : Ef α}
theorem Sq.md {h h' : AH} {S T : Fp} {s : Sl} {xs : List α} (n : Sq E h S s xs) (m : Md T h h') (d : Dis S T) : Sq E h' S s xs := by
 obtain ⟨s', e, n'⟩ := Ef.md (Ef.seq E) m d (show (Ef.seq E).has h S [s.v] xs from ⟨s, rfl, n⟩)
 cases Sl.vs_inj e
 exact n'
theorem Nats.mdE {h h' : AH} {S T : Fp} {s : Sl} {xs : List Nat} (n : Nats h s xs) (a : ∀ j, ¬ Av s j xs → S j) (m : Md T h h') (d : Dis S T) : Nats h' s xs := by
 obtain ⟨s', e, n', _⟩ := Ef.md Ef.nats m d (show Ef.nats.has h S [s.v] xs from ⟨s, rfl, n, a⟩)
 cases Sl.vs_inj e
 exact n'
theorem GF.md {elem : TypeId} {h h' : AH} {S T : Fp} {s : Sl} (m : Md T h h') (d : Dis S T) : ∀ {j : Option Nat} {xs : List α}, GF E elem h S s j xs → (∀ k, j = some k → ¬ T k) → GF E elem h' S s j xs
 | .none, _, v, _ => v
 | .some k, _, ⟨l, a, r, ln, rows, e, b, c, r2⟩, ne => ⟨l, a, r, ln, rows, e, m.has b (ne k rfl), c, r2.imp fun _ _ => E.md m d⟩
end
end Go.Ab

/- squeezed -/
set_option linter.unusedVariables false
set_option linter.unusedSimpArgs false
namespace Go.Ab
def kvGet {A : Type} : List (Int × A) → Int → Option A
 | [], _ => none
 | (k, v) :: t, n => if n = k then some v else kvGet t n
def kvPut {A : Type} : List (Int × A) → Int → A → List (Int × A)
 | [], n, v => [(n, v)]
 | (k, w) :: t, n, v => if n = k then (k, v) :: t else (k, w) :: kvPut t n v
def kvDel {A : Type} : List (Int × A) → Int → List (Int × A)
 | [], _ => []
 | (k, w) :: t, n => if n = k then t else (k, w) :: kvDel t n
theorem k2m {A : Type} (l : List (Int × A)) (n m : Int) (v : A) : kvGet (kvPut l n v) m = if m = n then some v else kvGet l m := by
 induction l with
 | nil => simp [kvPut, kvGet]
 | cons p t ih =>
  obtain ⟨k, w⟩ := p
  simp only [kvPut]
  by_cases h : n = k
  ·subst h
   rw [if_pos rfl]
   simp only [kvGet]
   by_cases h2 : m = n
   ·rw [if_pos h2, if_pos h2]
   ·rw [if_neg h2, if_neg h2, if_neg h2]
  ·rw [if_neg h]
   simp only [kvGet, ih]
   by_cases h2 : m = k
   ·rw [if_pos h2, if_pos h2, if_neg (by omega)]
   ·rw [if_neg h2, if_neg h2]
theorem kr2 {A : Type} {l : List (Int × A)} {n : Int} (v : A) (h : kvGet l n = none) : kvPut l n v = l ++ [(n, v)] := by
 induction l with
 | nil => rfl
 | cons p t ih =>
  obtain ⟨k, w⟩ := p
  simp only [kvGet] at h
  by_cases e : n = k
  ·rw [if_pos e] at h
   cases h
  ·rw [if_neg e] at h
   simp only [kvPut, if_neg e, ih h, List.cons_append]
theorem ksz {A : Type} {l : List (Int × A)} {n : Int} {w : A} (v : A) (h : kvGet l n = some w) : (kvPut l n v).length = l.length := by
 induction l with
 | nil => cases h
 | cons p t ih =>
  obtain ⟨k, u⟩ := p
  simp only [kvGet] at h
  by_cases e : n = k
  ·simp only [kvPut, if_pos e, List.length_cons]
  ·rw [if_neg e] at h
   simp only [kvPut, if_neg e, List.length_cons, ih h]
def Kv (es : List AEnt) (l : List (Int × AV)) : Prop := es.map (fun e => (e.key, e.val)) = l.map fun p => (AV.int .i64 p.1, p.2)
theorem Kv.nil : Kv [] [] := rfl
theorem Kv.len {es : List AEnt} {l : List (Int × AV)} (k : Kv es l) : es.length = l.length := by
 have := congrArg List.length k
 simpa using this
theorem ko2 {n : Int} : ∀ {es : List AEnt} {l : List (Int × AV)} (j : Nat), Kv es l →
  (findA .i64 n es j = some none ∧ kvGet l n = none ∧ (∀ v b, Kv (es ++ [⟨.int .i64 n, v, b⟩]) (kvPut l n v)) ∧ kvDel l n = l) ∨
  ∃ t v, findA .i64 n es j = some (some (j + t, v)) ∧ t < es.length ∧ kvGet l n = some v ∧ (∀ w, Kv (es.modify t fun e => ⟨.int .i64 n, w, e.born⟩) (kvPut l n w)) ∧ Kv (es.eraseIdx t) (kvDel l n)
 | [], l, j, k => by
  cases l with
  | nil => exact .inl ⟨rfl, rfl, fun v b => rfl, rfl⟩
  | cons p t => simp [Kv] at k
 | e :: es, l, j, k => by
  cases l with
  | nil => simp [Kv] at k
  | cons p t =>
   obtain ⟨m, w⟩ := p
   simp only [Kv, List.map_cons, List.cons.injEq, Prod.mk.injEq] at k
   obtain ⟨⟨k1, k2⟩, k3⟩ := k
   have ih := ko2 (n := n) (j + 1) (show Kv es t from k3)
   simp only [findA, k1, decide_true, cond_true, kvGet, kvPut, kvDel]
   by_cases h : n = m
   ·subst h
    right
    refine ⟨0, e.val, by simp, by simp, by rw [if_pos rfl, k2], fun u => ?_, ?_⟩
    ·simp only [if_true]
     simp only [Kv, List.modify_zero_cons, List.map_cons]
     rw [show es.map _ = t.map _ from k3]
    ·simp only [if_true]
     exact k3
   ·rw [decide_eq_false h, cond_false]
    simp only [if_neg h]
    rcases ih with ⟨a, b, c, d⟩ | ⟨x, v, a, b, c, d, f⟩
    ·left
     refine ⟨a, b, fun v bb => ?_, by rw [d]⟩
     have := c v bb
     simp only [Kv, List.map_append, List.cons_append, List.map_cons] at this ⊢
     rw [this, k1, k2]
    ·right
     refine ⟨x + 1, v, by rw [a]; congr 3; omega, by simp; omega, c, fun u => ?_, ?_⟩
     ·have := d u
      simp only [Kv, List.modify_succ_cons, List.map_cons] at this ⊢
      rw [this, k1, k2]
     ·simp only [Kv, List.eraseIdx_cons_succ, List.map_cons] at f ⊢
      rw [f, k1, k2]
def MapIs (h : AH) (i : Nat) (l : List (Int × AV)) : Prop := ∃ es ck, h.blks[i]? = some (.map es ck) ∧ Kv es l
theorem MapIs.lt {h : AH} {i : Nat} {l : List (Int × AV)} (m : MapIs h i l) : i < h.blks.size := by
 obtain ⟨es, ck, e, _⟩ := m
 exact (Array.getElem?_eq_some_iff.1 e).1
theorem MapIs.md {h h' : AH} {i : Nat} {l : List (Int × AV)} {T : Fp} (m : MapIs h i l) (d : Md T h h') (n : ¬ T i) : MapIs h' i l := by
 obtain ⟨es, ck, e, k⟩ := m
 exact ⟨es, ck, d.get e n, k⟩
theorem MapIs.grow {h h' : AH} {i : Nat} {l : List (Int × AV)} (m : MapIs h i l) (g : Grow h h') : MapIs h' i l := m.md (g.md Fp.no) Fp.not_no
theorem AH.setBlk_Upd {h : AH} {i : Nat} (b : ABlk) : Upd h (h.setBlk i b) i := ⟨rfl, by rw [AH.setBlk_size]; exact Nat.le_refl _, fun j hj _ => AH.setBlk_ne hj⟩
section
variable {h : AH} {i : Nat} {l : List (Int × AV)}
theorem MapIs.at (m : MapIs h i l) : ∃ es ck, h.mapAt i = some (es, ck) ∧ Kv es l := by
 obtain ⟨es, ck, e, k⟩ := m
 exact ⟨es, ck, by simp only [AH.mapAt, e], k⟩
theorem MapIs.get (m : MapIs h i l) (n : Int) : mapGet h (some i) .i64 n = some (kvGet l n) := by
 obtain ⟨es, ck, e, k⟩ := m.at
 simp only [mapGet, e, Option.bind_some]
 rcases ko2 (n := n) 0 k with ⟨a, b, _⟩ | ⟨t, v, a, _, b, _⟩
 ·rw [a, b]; rfl
 ·rw [a, b]; rfl
theorem MapIs.put (m : MapIs h i l) (n : Int) (v : AV) : ∃ h', mapPut h i .i64 n v = some h' ∧ MapIs h' i (kvPut l n v) ∧ Upd h h' i := by
 have hl := m.lt
 obtain ⟨es, ck, e, k⟩ := m.at
 simp only [mapPut, e, Option.bind_some]
 rcases ko2 (n := n) 0 k with ⟨a, b, c, _⟩ | ⟨t, w, a, _, b, c, _⟩
 ·rw [a]
  exact ⟨_, rfl, ⟨_, _, AH.setBlk_get hl, c v ck⟩, AH.setBlk_Upd _⟩
 ·rw [a, Nat.zero_add]
  exact ⟨_, rfl, ⟨_, _, AH.setBlk_get hl, c v⟩, AH.setBlk_Upd _⟩
theorem MapIs.size (m : MapIs h i l) : mapLen h (some i) = some l.length := by
 obtain ⟨es, ck, e, k⟩ := m.at
 simp only [mapLen, e, Option.map_some, k.len]
theorem MapIs.clear (m : MapIs h i l) : ∃ h', ki5 h (some i) = some h' ∧ MapIs h' i [] ∧ Upd h h' i := by
 have hl := m.lt
 obtain ⟨es, ck, e, k⟩ := m.at
 simp only [ki5, e, Option.map_some]
 exact ⟨_, rfl, ⟨_, _, AH.setBlk_get hl, Kv.nil⟩, AH.setBlk_Upd _⟩
end
section
variable {P : AV → AH → Prop}
theorem Runs.call {x : Option (AV × AH)} {Q : AV → AH → Prop} {K : AV × AH → Option (AV × AH)} (r : Runs x Q) (H : ∀ v h', Q v h' → Runs (K (v, h')) P) : Runs (x.bind K) P := by
 obtain ⟨v, h', e, q⟩ := r
 subst e
 exact H v h' q
theorem Runs.newMap {h : AH} {K : Nat → AH → Option (AV × AH)} (H : ∀ h', MapIs h' h.blks.size [] → Grow h h' → Runs (K h.blks.size h') P) : Runs (Go.Ab.newM h (.map [] 0) K) P :=
 Runs.newM fun h' e g => H h' ⟨[], 0, e, Kv.nil⟩ g
theorem kh8 {n : Nat} {G : Int → AH → Option (AV × AH)} {p : Nat → Bool} {h0 : AH}
  (step : ∀ (i : Nat) (h : AH) (P : AV → AH → Prop), i < n → Grow h0 h → (∀ h', Grow h0 h' → p i = true → P (.int .i64 (i : Int)) h') → (∀ h', Grow h0 h' → p i = false → Runs (G ((i + 1 : Nat) : Int) h') P) → Runs (G (i : Int) h) P)
  (done : ∀ (h : AH), Grow h0 h → G (n : Int) h = some (.int .i64 (-1), h)) : ∀ (k i : Nat), i + k = n → ∀ {h : AH}, Grow h0 h → (∀ j, j < i → p j = false) →
  Runs (G (i : Int) h) fun v h' => Grow h0 h' ∧ ((v = .int .i64 (-1) ∧ ∀ j, j < n → p j = false) ∨ ∃ j, j < n ∧ v = .int .i64 (j : Int) ∧ p j = true ∧ ∀ t, t < j → p t = false) := by
 intro k
 induction k with
 | zero =>
  intro i hi h g hp
  have : i = n := by omega
  subst this
  rw [done h g]
  exact Runs.ret ⟨g, .inl ⟨rfl, hp⟩⟩
 | succ k ih =>
  intro i hi h g hp
  refine step i h _ (by omega) g (fun h' g' e => ⟨g', .inr ⟨i, by omega, rfl, e, hp⟩⟩) fun h' g' e => ih (i + 1) (by omega) g' fun j hj => ?_
  rcases Nat.lt_or_ge j i with h1 | h1
  ·exact hp j h1
  ·have : j = i := by omega
   subst this
   exact e
theorem Runs.contains {α : Type} {xs : List α} {p : α → Bool} {x : Option (AV × AH)} {h0 : AH} (R : Runs x fun v h' => Grow h0 h' ∧ ((v = .int .i64 (-1) ∧ ∀ j, j < xs.length → (xs[j]?).any p = false) ∨ ∃ j, j < xs.length ∧ v = .int .i64 (j : Int) ∧ (xs[j]?).any p = true ∧ ∀ t, t < j → (xs[t]?).any p = false)) :
  Runs (x.bind fun q => ((some q.1).bind (AV.asInt .i64)).bind fun n => some (.bool (decide (n ≥ 0)), q.2)) fun v h' => v = .bool (xs.any p) ∧ Grow h0 h' := by
 refine R.call fun v h' ⟨g, d⟩ => ?_
 rcases d with ⟨rfl, a⟩ | ⟨j, hj, rfl, a, _⟩
 ·refine Runs.step (seen (kc _ _)) (Runs.ret ⟨?_, g⟩)
  have : xs.any p = false := by
   rw [List.any_eq_false]
   intro y hy
   obtain ⟨t, ht, rfl⟩ := List.getElem_of_mem hy
   have := a t ht
   rw [List.getElem?_eq_getElem ht] at this
   simpa using this
  rw [this]
  exact congrArg AV.bool (decide_eq_false (by omega))
 ·refine Runs.step (seen (kc _ _)) (Runs.ret ⟨?_, g⟩)
  have : xs.any p = true := by
   rw [List.any_eq_true]
   rw [List.getElem?_eq_getElem hj] at a
   exact ⟨xs[j], List.getElem_mem hj, by simpa using a⟩
  rw [this]
  exact congrArg AV.bool (decide_eq_true (by omega))
end
end Go.Ab

/- squeezed -/
set_option linter.unusedVariables false
set_option linter.unusedSimpArgs false
namespace Go.Ab
abbrev EI : Ef Int := Ef.int .i64
section
variable {h : AH} {S : Fp} {s : Sl}
theorem Sq.int {k : IntKind} {xs : List Int} (n : Sq (Ef.int k) h S s xs) {i : Nat} (hi : i < xs.length) : ∃ r : Ref, idx s.ref s.len (i : Int) 1 = some r ∧ (h.cell r).bind (AV.asInt k) = some xs[i] := by
 obtain ⟨r, cs, e1, e2, l⟩ := n.at (kl6 hi)
 have e2 : cs = [.int k xs[i]] := e2
 subst e2
 rw [n.len]
 exact ⟨r, e1, l.rd0 (Grow.refl _) rfl (kc _ _)⟩
theorem Sq.sl {α : Type} {E : Ef α} {xs : List (List α)} (n : Sq (Ef.seq E) h S s xs) {i : Nat} (hi : i < xs.length) : ∃ (r : Ref) (s' : Sl), idx s.ref s.len (i : Int) 1 = some r ∧ (h.cell r).bind AV.asSl = some s' ∧ (h.cell (r.add 0)).bind AV.asSl = some s' ∧ Sq E h S s' xs[i] := by
 obtain ⟨r, cs, e1, ⟨s', rfl, n'⟩, l⟩ := n.at (kl6 hi)
 rw [n.len]
 exact ⟨r, s', e1, l.rd0 (Grow.refl _) rfl (asSl_v _), l.rd (Grow.refl _) 0 rfl (asSl_v _), n'⟩
theorem Sq.nats {xs : List (List Nat)} (n : Sq Ef.nats h S s xs) {i : Nat} (hi : i < xs.length) : ∃ (r : Ref) (s' : Sl), idx s.ref s.len (i : Int) 1 = some r ∧ (h.cell r).bind AV.asSl = some s' ∧ Nats h s' xs[i] ∧ ∀ j, ¬ Av s' j xs[i] → S j := by
 obtain ⟨r, cs, e1, ⟨s', rfl, n', a⟩, l⟩ := n.at (kl6 hi)
 rw [n.len]
 exact ⟨r, s', e1, l.rd0 (Grow.refl _) rfl (asSl_v _), n', a⟩
end
theorem ky1 {P : Program} {h : AH} {t e : TypeId} {cs : List AV} {k : IntKind} (S : Fp) (hu : P.underlying t = some (.slice e)) (he : P.underlying e = some (.int k)) (hc : P.cellsOf e = 1) (a : ArgT P h t cs) : ∃ (s : Sl) (xs : List Int), cs = [s.v] ∧ Sq (Ef.int k) h S s xs :=
 Sq.of_arg (E := Ef.int k) hu hc (fun es t => by
  obtain ⟨y, rfl, w⟩ := t.int he
  exact ⟨y, rfl⟩) a
structure Nd where
 leaf : Bool
 weight : Int
 party : Int
 feature : Int
 cut : Int
 left : Int
 right : Int
 deriving DecidableEq
def Nd.cells (x : Nd) : List AV := [.bool x.leaf, .int .i64 x.weight, .int .i64 x.party, .int .i64 x.feature, .int .i64 x.cut, .int .i64 x.left, .int .i64 x.right]
@[reducible] def Ef.nd : Ef Nd where
 w := 7
 pos := by decide
 has _ _ cs x := cs = x.cells
 len e := by rw [e]; rfl
 grow _ e := e
 mono _ e := e
 upd _ _ e := e
 bound e := e
theorem k8j {α : Type} {xs : List α} {i : Nat} (hi : i < xs.length) (p : α → Bool) : (xs.drop i).all p = (p xs[i] && (xs.drop (i + 1)).all p) := by
 rw [List.drop_eq_getElem_cons hi, List.all_cons]
theorem kms {α : Type} {xs : List α} {i : Nat} (hi : xs.length ≤ i) (p : α → Bool) : (xs.drop i).all p = true := by
 rw [List.drop_of_length_le hi]; rfl
theorem ko0 {n i : Nat} (hi : i < n) (p : Nat → Bool) : ((List.range n).drop i).all p = (p i && ((List.range n).drop (i + 1)).all p) := by
 rw [k8j (by simpa using hi), List.getElem_range]
end Go.Ab

/- squeezed -/
set_option linter.unusedVariables false
set_option linter.unusedSimpArgs false
namespace Go.Num
def half (n : Nat) : Nat := (n + 1) / 2
theorem k5v {n : Nat} (ho : n % 2 = 1) (e : Nat) : (2 ^ e * half n ^ e) % n = 1 % n := by
 rw [← Nat.mul_pow, show 2 * half n = n + 1 from by unfold half; omega, Nat.pow_mod, Nat.add_mod_left, ← Nat.pow_mod, Nat.one_pow]
def redc (n e z : Nat) : Nat := z * half n ^ e % n
theorem knh (n e z : Nat) : redc n e (z % n) = redc n e z := by
 unfold redc
 rw [Nat.mod_mul_mod]
theorem kre {n : Nat} (ho : n % 2 = 1) (e x : Nat) : redc n e (x * 2 ^ e) = x % n := by
 unfold redc
 rw [Nat.mul_assoc, Nat.mul_mod, k5v ho, ← Nat.mul_mod, Nat.mul_one]
theorem krr {n e r z : Nat} (ho : n % 2 = 1) (hr : r < n) (h : (r * 2 ^ e) % n = z % n) : r = redc n e z := by
 rw [← knh, ← h, knh, kre ho, Nat.mod_eq_of_lt hr]
theorem kza {n e x : Nat} (ho : n % 2 = 1) : redc n e (x * 2 ^ e % n * 1) = x % n := by
 rw [Nat.mul_one, knh, kre ho]
theorem kxi {b T Y x N v : Nat} (hb : 0 < b) (hv : (N * v + 1) % b = 0) : (T + Y * x + N * ((T + Y * x) % b * v % b)) % b = 0 := by
 generalize T + Y * x = U
 have e1 : (U + N * (U % b * v % b)) % b = (U + N * (U * v)) % b := by
  rw [Nat.add_mod, Nat.mul_mod_mod_aux N U v b, ← Nat.add_mod]
 rw [e1, show U + N * (U * v) = U * (N * v + 1) from by rw [Nat.mul_add, Nat.mul_one, Nat.add_comm]; simp only [Nat.mul_comm, Nat.mul_left_comm], Nat.mul_mod, hv, Nat.mul_zero, Nat.zero_mod]
where
 Nat.mul_mod_mod_aux (N U v b : Nat) : N * (U % b * v % b) % b = N * (U * v) % b := by
  rw [Nat.mul_mod_mod, ← Nat.mul_mod_mod, Nat.mod_mul_mod, Nat.mul_mod_mod]
theorem k4k {b T Y x N m : Nat} (hT : T < Y + N) (hx : x < b) (hm : m < b) : (T + Y * x + N * m) / b < Y + N := by
 have hb : 0 < b := by omega
 rw [Nat.div_lt_iff_lt_mul hb]
 have h1 : Y * x ≤ Y * (b - 1) := Nat.mul_le_mul_left _ (by omega)
 have h2 : N * m ≤ N * (b - 1) := Nat.mul_le_mul_left _ (by omega)
 obtain ⟨c, rfl⟩ : ∃ c, b = c + 1 := ⟨b - 1, by omega⟩
 rw [Nat.add_mul, Nat.mul_add Y, Nat.mul_add N, Nat.mul_one, Nat.mul_one]
 simp only [Nat.add_sub_cancel] at h1 h2
 omega
theorem kba0 {b p T Y x X N M m T' : Nat} (h : T * p = X * Y + N * M) (e : T + Y * x + N * m = T' * b) : T' * (p * b) = (X + p * x) * Y + N * (M + p * m) := by
 have : T' * (p * b) = (T' * b) * p := by simp only [Nat.mul_assoc, Nat.mul_comm, Nat.mul_left_comm]
 rw [this, ← e, Nat.add_mul, Nat.add_mul, h, Nat.add_mul, Nat.mul_add]
 simp only [Nat.mul_assoc, Nat.mul_comm, Nat.mul_left_comm]
 omega
end Go.Num

/- squeezed -/
set_option linter.unusedVariables false
set_option linter.unusedSimpArgs false
set_option maxRecDepth 10000
namespace Go.Ab
open Go.Proofs Go.Num
end Go.Ab

/- squeezed -/
set_option linter.unusedVariables false
set_option linter.unusedSimpArgs false
set_option maxRecDepth 10000
namespace Go.Ab
open Go.Proofs Go.Num
inductive kk5
 | fn (x1 : List Nat) (x2 : List Nat) (a3 : Int)
 | p2 (x1 : List Nat) (x2 : List Nat) (a3 : Int) (a4 : Int) (a5 : Int) (a6 : Int)
abbrev knl := List Nat
noncomputable def k71 (x1 : List Nat) (x2 : List Nat) (a3 : Int) : Option (kk5 ⊕ knl) :=
 some (.inl (.p2 x1 x2 a3 0 (List.length x1 : Int) 0))
noncomputable def khw (x1 : List Nat) (x2 : List Nat) (a3 : Int) (a4 : Int) (a5 : Int) (a6 : Int) : Option (kk5 ⊕ knl) :=
 cond (decide (a6 < a5)) (cond (decide (a6 < (List.length x2 : Int))) ((atI x2 a6).bind fun y9 => (add64P ((mul64 ((y9 : Int)) a3).2) a4 0).bind fun p11 => (inI (List.length x1) a6).bind fun j12 => (add64P (((List.getD x1 j12 0 : Nat) : Int)) (p11.1) 0).bind fun p13 => (inI (List.length x1) a6).bind fun j14 => (u64P (p13.1)).bind fun w15 => some (.inl (.p2 (List.set x1 j14 w15) x2 a3 (IntKind.wrap .u64 ((IntKind.wrap .u64 (((mul64 ((y9 : Int)) a3).1) + (p11.2))) + (p13.2))) a5 (IntKind.wrap .i64 (a6 + 1))))) ((add64P 0 a4 0).bind fun p9 => (inI (List.length x1) a6).bind fun j10 => (add64P (((List.getD x1 j10 0 : Nat) : Int)) (p9.1) 0).bind fun p11 => (inI (List.length x1) a6).bind fun j12 => (u64P (p11.1)).bind fun w13 => some (.inl (.p2 (List.set x1 j12 w13) x2 a3 (IntKind.wrap .u64 ((IntKind.wrap .u64 (0 + (p9.2))) + (p11.2))) a5 (IntKind.wrap .i64 (a6 + 1)))))) (some (.inr x1))
noncomputable def kef : kk5 → Option (kk5 ⊕ knl)
 | .fn x1 x2 a3 => k71 x1 x2 a3
 | .p2 x1 x2 a3 a4 a5 a6 => khw x1 x2 a3 a4 a5 a6
end Go.Ab

/- squeezed -/
set_option linter.unusedVariables false
set_option linter.unusedSimpArgs false
set_option maxRecDepth 10000
namespace Go.Ab
open Go.Proofs Go.Num
def addMul : List Nat → List Nat → Nat → Nat → List Nat
 | [], _, _, _ => []
 | t :: ts, ys, a, c => (t + ys.headD 0 * a + c) % B :: addMul ts ys.tail a ((t + ys.headD 0 * a + c) / B)
theorem kij : ∀ (ts ys : List Nat) (a c : Nat), (addMul ts ys a c).length = ts.length
 | [], _, _, _ => rfl
 | t :: ts, ys, a, c => by rw [addMul, List.length_cons, List.length_cons, kij]
theorem kkb : ∀ (ts ys : List Nat) (a c : Nat), ∀ x ∈ addMul ts ys a c, x < B
 | [], _, _, _, x, h => by cases h
 | t :: ts, ys, a, c, x, h => by
  rw [addMul] at h
  rcases List.mem_cons.1 h with rfl | h
  ·exact Nat.mod_lt _ (by decide)
  ·exact kkb ts _ _ _ x h
theorem kky (b x : Nat) (xs : List Nat) : num b (x :: xs) = x + b * num b xs := rfl
theorem knp (b : Nat) (ys : List Nat) : num b ys = ys.headD 0 + b * num b ys.tail := by
 cases ys with
 | nil => simp [num]
 | cons y ys => rfl
theorem ko7 : ∀ (ts ys : List Nat) (a c : Nat), num B (addMul ts ys a c) = (num B ts + num B ys * a + c) % B ^ ts.length
 | [], ys, a, c => by simp [addMul, num, Nat.mod_one]
 | t :: ts, ys, a, c => by
  rw [addMul, kky, ko7 ts, kky, knp B ys, List.length_cons, Nat.pow_succ, Nat.mul_comm (B ^ ts.length) B, Nat.mod_mul]
  generalize ys.headD 0 = y
  generalize num B ys.tail = Y
  generalize num B ts = T
  have e : t + B * T + (y + B * Y) * a + c = (t + y * a + c) + B * (T + Y * a) := by
   rw [Nat.add_mul, Nat.mul_add, Nat.mul_assoc]
   omega
  rw [e, Nat.add_mul_mod_self_left, Nat.add_mul_div_left _ _ (show 0 < B from by decide)]
  congr 3
  omega
theorem k8b {t o c : Nat} (ho : o < 18446744073709551616) (hc : c < 18446744073709551616) (h : (o + t + c) / 18446744073709551616 < 18446744073709551616) :
  (o + (t % 18446744073709551616 + c + 0) % 18446744073709551616 + 0) % 18446744073709551616 = (o + t + c) % 18446744073709551616 ∧
  IntKind.wrap .u64 (IntKind.wrap .u64 (((t / 18446744073709551616 : Nat) : Int) + (((t % 18446744073709551616 + c + 0) / 18446744073709551616 : Nat) : Int)) + (((o + (t % 18446744073709551616 + c + 0) % 18446744073709551616 + 0) / 18446744073709551616 : Nat) : Int)) = (((o + t + c) / 18446744073709551616 : Nat) : Int) := by
 rw [wrapU, wrapU]
 omega
theorem k2e {o c : Nat} (ho : o < 18446744073709551616) (hc : c < 18446744073709551616) :
  (o + (0 + c + 0) % 18446744073709551616 + 0) % 18446744073709551616 = (o + c) % 18446744073709551616 ∧
  IntKind.wrap .u64 (IntKind.wrap .u64 (0 + (((0 + c + 0) / 18446744073709551616 : Nat) : Int)) + (((o + (0 + c + 0) % 18446744073709551616 + 0) / 18446744073709551616 : Nat) : Int)) = (((o + c) / 18446744073709551616 : Nat) : Int) := by
 rw [wrapU, wrapU]
 omega
theorem kps {α : Type} (l : List α) (x y : α) (r : List α) {n : Nat} (h : n = l.length) : (l ++ x :: r).set n y = (l ++ [y]) ++ r := by
 subst h
 simp
theorem ktw {ys : List Nat} {a : Nat} (ha : a < B) (ly : ∀ y ∈ ys, y < B) : ∀ (ts l : List Nat) (c : Nat), (∀ t ∈ ts, t < B) → c < B → l.length + ts.length ≤ 8796093022208 →
  Iter kef (.p2 (l ++ ts) ys (a : Int) (c : Int) ((l.length + ts.length : Nat) : Int) (l.length : Int)) (l ++ addMul ts (ys.drop l.length) a c)
 | [], l, c, _, _, _ => by
  refine .done ?_
  show khw _ _ _ _ _ _ = _
  unfold khw
  rw [condF (by rw [decide_eq_false_iff_not]; simp)]
  rfl
 | t :: ts, l, c, lt, hc, hn => by
  have ht := lt t (by simp)
  have hn' : l.length + ts.length + 1 ≤ 8796093022208 := by simpa [Nat.add_assoc] using hn
  have hj : l.length < (l ++ t :: ts).length := by simp
  have hg : List.getD (l ++ t :: ts) l.length 0 = t := by rw [kbe hj]; simp
  have rek := fun (c' : Nat) (hc' : c' < B) (x : Nat) => ktw ha ly ts (l ++ [x]) c' (fun t h => lt t (by simp [h])) hc' (by simp; omega)
  have key : ∀ (c' x : Nat), c' < B → khw (l ++ t :: ts) ys (a : Int) (c : Int) ((l.length + (t :: ts).length : Nat) : Int) (l.length : Int) = some (.inl (.p2 ((l ++ [x]) ++ ts) ys (a : Int) (c' : Int) ((l.length + (t :: ts).length : Nat) : Int) ((l.length + 1 : Nat) : Int))) →
    x = (t + (ys.drop l.length).headD 0 * a + c) % B → c' = (t + (ys.drop l.length).headD 0 * a + c) / B → Iter kef (.p2 (l ++ t :: ts) ys (a : Int) (c : Int) ((l.length + (t :: ts).length : Nat) : Int) (l.length : Int)) (l ++ addMul (t :: ts) (ys.drop l.length) a c) := fun c' x hc' h1 hx hcc => by
   refine .next h1 ?_
   have := rek c' hc' x
   have e1 : (l ++ [x]).length + ts.length = l.length + (t :: ts).length := by simp; omega
   have e2 : (l ++ [x]).length = l.length + 1 := by simp
   rw [e1, e2] at this
   rw [addMul, ← hx, ← hcc, List.tail_drop]
   simpa using this
  by_cases hi : l.length < ys.length
  ·have hy := ly ys[l.length] (List.getElem_mem _)
   have hd : (ys.drop l.length).headD 0 = ys[l.length] := by rw [List.drop_eq_getElem_cons hi]; rfl
   rw [hd] at key
   have hcl : (t + ys[l.length] * a + c) / B < B := by rw [Nat.add_comm t]; exact kp5 hy ha ht hc
   obtain ⟨c1, c2⟩ := k8b (t := ys[l.length] * a) ht hc hcl
   refine key _ _ hcl ?_ rfl rfl
   unfold khw
   rw [condT (by rw [decide_eq_true_eq]; rw [List.length_cons]; omega), condT (by rw [decide_eq_true_eq]; omega), kbd hi, Option.bind_some, knd hy ha]
   dsimp only
   have a1 := kfe (ys[l.length] * a % B) c (c := 0) (by omega)
   have a2 := kfe t ((ys[l.length] * a % B + c + 0) % 18446744073709551616) (c := 0) (by omega)
   rw [show ((0 : Nat) : Int) = 0 from rfl] at a1 a2
   rw [a1, Option.bind_some, kw hj, Option.bind_some, hg]
   dsimp only
   rw [a2, Option.bind_some, Option.bind_some]
   dsimp only
   rw [c1, c2, kz (Nat.mod_lt _ (by decide)), Option.bind_some, kf (by omega), kps l t _ ts rfl]
  ·have hd : (ys.drop l.length).headD 0 = 0 := by rw [List.drop_eq_nil_of_le (by omega)]; rfl
   simp only [hd, Nat.zero_mul, Nat.add_zero] at key
   have hcl : (t + c) / B < B := by
    have : t < 18446744073709551616 := ht
    have : c < 18446744073709551616 := hc
    show (t + c) / 18446744073709551616 < 18446744073709551616
    omega
   obtain ⟨c1, c2⟩ := k2e ht hc
   refine key _ _ hcl ?_ rfl rfl
   unfold khw
   rw [condT (by rw [decide_eq_true_eq]; rw [List.length_cons]; omega), condF (by rw [decide_eq_false_iff_not]; omega)]
   have a1 := kfe 0 c (c := 0) (by omega)
   have a2 := kfe t ((0 + c + 0) % 18446744073709551616) (c := 0) (by omega)
   rw [show ((0 : Nat) : Int) = 0 from rfl] at a1 a2
   rw [a1, Option.bind_some, kw hj, Option.bind_some, hg]
   dsimp only
   rw [a2, Option.bind_some, Option.bind_some]
   dsimp only
   rw [c1, c2, kz (Nat.mod_lt _ (by decide)), Option.bind_some, kf (by omega), kps l t _ ts rfl]
theorem kuo {ts ys : List Nat} {a : Nat} (lt : ∀ t ∈ ts, t < B) (ly : ∀ y ∈ ys, y < B) (ha : a < B) (hn : ts.length ≤ 8796093022208) : runP kef (.fn ts ys (a : Int)) = some (addMul ts ys a 0) := by
 refine kd8 (.next rfl ?_)
 have := ktw ha ly ts [] 0 lt (by decide) (by simpa using hn)
 simpa using this
end Go.Ab

/- squeezed -/
set_option linter.unusedVariables false
set_option linter.unusedSimpArgs false
set_option maxRecDepth 10000
namespace Go.Ab
open Go.Proofs Go.Num
inductive ki2
 | fn (x1c0 : List Nat) (z1c1 : Int) (x1c2 : List Nat) (x1c3 : List Nat) (x2 : List Nat) (x3 : List Nat)
 | p4 (x1c0 : List Nat) (z1c1 : Int) (x1c2 : List Nat) (x1c3 : List Nat) (x2 : List Nat) (x3 : List Nat) (a4 : Int) (x5 : List Nat) (a6 : Int) (a7 : Int)
abbrev kmc := List Nat
noncomputable def knb (x1c0 : List Nat) (z1c1 : Int) (x1c2 : List Nat) (x1c3 : List Nat) (x2 : List Nat) (x3 : List Nat) : Option (ki2 ⊕ kmc) :=
 (mkI (IntKind.wrap .i64 ((List.length x1c0 : Int) + 2)) (IntKind.wrap .i64 ((List.length x1c0 : Int) + 2))).bind fun m4 => some (.inl (.p4 x1c0 z1c1 x1c2 x1c3 x2 x3 (List.length x1c0 : Int) (List.replicate m4 0) (List.length x1c0 : Int) 0))
noncomputable def khx (x1c0 : List Nat) (z1c1 : Int) (x1c2 : List Nat) (x1c3 : List Nat) (x2 : List Nat) (x3 : List Nat) (a4 : Int) (x5 : List Nat) (a6 : Int) (a7 : Int) : Option (ki2 ⊕ kmc) :=
 cond (decide (a7 < a6)) (cond (decide (a7 < (List.length x2 : Int))) ((atI x2 a7).bind fun y10 => (runP kef (.fn x5 x3 ((y10 : Int)))).bind fun p11 => (need (List.length p11 = List.length x5)).bind fun c11 => (inI (List.length x5) 0).bind fun j12 => (runP kef (.fn p11 x1c0 (IntKind.wrap .u64 ((((List.getD p11 j12 0 : Nat) : Int)) * z1c1)))).bind fun p13 => (need (List.length p13 = List.length p11)).bind fun c13 => (cutP (List.length x5) 1 (List.length x5 : Int)).bind fun p14 => (overW p13 (List.take p14.2 (List.drop p14.1 p13))).bind fun y15 => (inI (List.length x5) (IntKind.wrap .i64 (a4 + 1))).bind fun j16 => (u64P 0).bind fun w17 => some (.inl (.p4 x1c0 z1c1 x1c2 x1c3 x2 x3 a4 (List.set y15 j16 w17) a6 (IntKind.wrap .i64 (a7 + 1))))) ((runP kef (.fn x5 x3 0)).bind fun p10 => (need (List.length p10 = List.length x5)).bind fun c10 => (inI (List.length x5) 0).bind fun j11 => (runP kef (.fn p10 x1c0 (IntKind.wrap .u64 ((((List.getD p10 j11 0 : Nat) : Int)) * z1c1)))).bind fun p12 => (need (List.length p12 = List.length p10)).bind fun c12 => (cutP (List.length x5) 1 (List.length x5 : Int)).bind fun p13 => (overW p12 (List.take p13.2 (List.drop p13.1 p12))).bind fun y14 => (inI (List.length x5) (IntKind.wrap .i64 (a4 + 1))).bind fun j15 => (u64P 0).bind fun w16 => some (.inl (.p4 x1c0 z1c1 x1c2 x1c3 x2 x3 a4 (List.set y14 j15 w16) a6 (IntKind.wrap .i64 (a7 + 1)))))) (cond (decide ((cmpN (digs B (num B x5)) x1c0) ≥ 0)) (some (.inr ((subN (digs B (num B x5)) x1c0).1))) (some (.inr (digs B (num B x5)))))
noncomputable def kmi : ki2 → Option (ki2 ⊕ kmc)
 | .fn x1c0 z1c1 x1c2 x1c3 x2 x3 => knb x1c0 z1c1 x1c2 x1c3 x2 x3
 | .p4 x1c0 z1c1 x1c2 x1c3 x2 x3 a4 x5 a6 a7 => khx x1c0 z1c1 x1c2 x1c3 x2 x3 a4 x5 a6 a7
end Go.Ab

/- squeezed -/
set_option linter.unusedVariables false
set_option linter.unusedSimpArgs false
set_option maxRecDepth 10000
namespace Go.Ab
open Go.Proofs Go.Num
theorem getD0 (xs : List Nat) : xs.getD 0 0 = xs.headD 0 := by cases xs <;> rfl
theorem kri {b : Nat} {xs : List Nat} (h : ∀ x ∈ xs, x < b) (hb : 0 < b) : xs.headD 0 = num b xs % b := by
 cases xs with
 | nil => simp [num]
 | cons x xs =>
  rw [kky, Nat.add_mul_mod_self_left, Nat.mod_eq_of_lt (h x (by simp))]
  rfl
def montR (ts ys ns : List Nat) (v x : Nat) : List Nat :=
 let p := addMul ts ys x 0
 (addMul p ns (p.headD 0 * v % B) 0).tail ++ [0]
theorem k4u {ts ys ns : List Nat} {v x k : Nat} (lt : ∀ t ∈ ts, t < B) (hl : ts.length = k + 2) (hx : x < B) (hv : (num B ns * v + 1) % B = 0) (hY : num B ys < B ^ k) (hN : num B ns < B ^ k) (hT : num B ts < num B ys + num B ns) :
  (montR ts ys ns v x).length = k + 2 ∧ (∀ t ∈ montR ts ys ns v x, t < B) ∧ (∃ m, m < B ∧ num B ts + num B ys * x + num B ns * m = num B (montR ts ys ns v x) * B) := by
 have B0 : 0 < B := by decide
 unfold montR
 dsimp only
 generalize hp : addMul ts ys x 0 = p
 generalize hT' : num B ts = T at *
 generalize hY' : num B ys = Y at *
 generalize hN' : num B ns = N at *
 have lp : p.length = k + 2 := by rw [← hp, kij, hl]
 have ltp : ∀ t ∈ p, t < B := by rw [← hp]; exact kkb _ _ _ _
 have e1 : Y * x ≤ B ^ k * B := Nat.mul_le_mul (by omega) (by omega)
 have e3 : B ^ (k + 2) = B ^ k * B * B := by rw [Nat.pow_succ, Nat.pow_succ]
 have e4 : B ^ k * B * 4 ≤ B ^ k * B * B := Nat.mul_le_mul_left _ (by decide)
 have e5 : B ^ k * 2 ≤ B ^ k * B := Nat.mul_le_mul_left _ (by decide)
 have np : num B p = T + Y * x := by
  rw [← hp, ko7, hT', hY', hl, Nat.add_zero]
  refine Nat.mod_eq_of_lt ?_
  omega
 have hh : p.headD 0 = (T + Y * x) % B := by rw [kri ltp B0, np]
 rw [hh]
 generalize hm : (T + Y * x) % B * v % B = m
 have mB : m < B := by rw [← hm]; exact Nat.mod_lt _ B0
 have e2 : N * m ≤ B ^ k * B := Nat.mul_le_mul (by omega) (by omega)
 generalize hp' : addMul p ns m 0 = p'
 have lp' : p'.length = k + 2 := by rw [← hp', kij, lp]
 have ltp' : ∀ t ∈ p', t < B := by rw [← hp']; exact kkb _ _ _ _
 have np' : num B p' = T + Y * x + N * m := by
  rw [← hp', ko7, np, hN', lp, Nat.add_zero]
  refine Nat.mod_eq_of_lt ?_
  omega
 have h0 : p'.headD 0 = 0 := by
  rw [kri ltp' B0, np', ← hm]
  exact kxi B0 hv
 refine ⟨by simp; omega, ?_, m, mB, ?_⟩
 ·intro t ht
  rcases List.mem_append.1 ht with h | h
  ·exact ltp' t (List.mem_of_mem_tail h)
  ·rw [List.mem_singleton.1 h]; exact B0
 ·rw [← np', knp B p', h0, show [0] = List.replicate 1 0 from rfl, ke8, Nat.zero_add, Nat.mul_comm]
theorem k76 {p : List Nat} {k : Nat} (h : p.length = k + 2) : List.take (k + 1) (List.drop 1 p) = p.tail := by
 rw [List.drop_one, List.take_of_length_le (by simp; omega)]
theorem kzm {p : List Nat} {k : Nat} (h : p.length = k + 2) : ∃ z, overW p p.tail = some (p.tail ++ [z]) := by
 unfold overW
 rw [if_pos (by simp)]
 have hd : (p.drop p.tail.length).length = 1 := by simp; omega
 obtain ⟨z, hz⟩ := List.length_eq_one_iff.1 hd
 exact ⟨z, by rw [hz]⟩
theorem kpb {xs : List Nat} {i : Nat} (h : xs.length ≤ i) : xs.getD i 0 = 0 := by simp [List.getD, List.getElem?_eq_none h]
theorem k5p {xs ys : List Nat} (hx : rt xs = true) (hy : rt ys = true) : cmpN xs ys = cmp (num B xs) (num B ys) := by
 unfold cmpN
 rw [if_pos ⟨hx, hy⟩]
theorem k3b (b : Nat) {xs : List Nat} (i : Nat) : num b (xs.take (i + 1)) = num b (xs.take i) + b ^ i * xs.getD i 0 := by
 rcases Nat.lt_or_ge i xs.length with h | h
 ·rw [kcb b h, kbe h]
 ·rw [List.take_of_length_le (by omega), List.take_of_length_le h, kpb h]
  simp
section
variable {ns xs ys ones nexts : List Nat} {v k N X Y : Nat}
theorem kbal (hk : k ≤ 60) (ln : ns.length = k) (ltn : ∀ t ∈ ns, t < B) (lx : ∀ t ∈ xs, t < B) (ly : ∀ t ∈ ys, t < B) (hvB : v < B) (hv : (num B ns * v + 1) % B = 0) (hY : num B ys < num B ns) {ts : List Nat} (lt : ∀ t ∈ ts, t < B) (hl : ts.length = k + 2) {i : Nat} (hi : i < k) (hT : num B ts < num B ys + num B ns) :
  khx ns (v : Int) ones nexts xs ys (k : Int) ts (k : Int) (i : Int) = some (.inl (.p4 ns (v : Int) ones nexts xs ys (k : Int) (montR ts ys ns v (xs.getD i 0)) (k : Int) ((i + 1 : Nat) : Int))) := by
 have hN : num B ns < B ^ k := ln ▸ num_lt B1 ltn
 have run : ∀ x : Nat, x < B → ∀ p, addMul ts ys x 0 = p → ∀ q, addMul p ns (p.headD 0 * v % B) 0 = q →
   p.length = k + 2 ∧ q.length = k + 2 ∧ runP kef (.fn ts ys (x : Int)) = some p ∧ runP kef (.fn p ns (IntKind.wrap .u64 (((List.getD p 0 0 : Nat) : Int) * (v : Int)))) = some q := by
  intro x hx p hp q hq
  have l1 : p.length = k + 2 := by rw [← hp, kij, hl]
  refine ⟨l1, by rw [← hq, kij, l1], ?_, ?_⟩
  ·rw [kuo lt ly hx (by omega), hp]
  ·rw [← Int.natCast_mul, wrapU, getD0]
   have : (((p.headD 0 * v : Nat) : Int)) % 18446744073709551616 = ((p.headD 0 * v % B : Nat) : Int) := rfl
   rw [this, kuo (hp ▸ kkb _ _ _ _) ltn (Nat.mod_lt _ (by decide)) (by omega), hq]
 unfold khx
 rw [condT (by rw [decide_eq_true_eq]; omega)]
 have fin : ∀ q : List Nat, q.length = k + 2 → ∀ r : Option (ki2 ⊕ kmc), r = ((cutP ts.length 1 (ts.length : Int)).bind fun p14 => (overW q (List.take p14.2 (List.drop p14.1 q))).bind fun y15 => (inI ts.length (IntKind.wrap .i64 ((k : Int) + 1))).bind fun j16 => (u64P 0).bind fun w17 => some (.inl (.p4 ns (v : Int) ones nexts xs ys (k : Int) (List.set y15 j16 w17) (k : Int) (IntKind.wrap .i64 ((i : Int) + 1))))) →
   r = some (.inl (.p4 ns (v : Int) ones nexts xs ys (k : Int) (q.tail ++ [0]) (k : Int) ((i + 1 : Nat) : Int))) := by
  intro q lq r hr
  rw [hr, hl]
  have c := krz (len := k + 2) (lo := 1) (n := k + 1) (by omega) (by omega)
  rw [show 1 + (k + 1) = k + 2 from by omega] at c
  rw [show ((1 : Nat) : Int) = 1 from rfl] at c
  obtain ⟨z, hz⟩ := kzm lq
  rw [c, Option.bind_some]
  dsimp only
  rw [k76 lq, hz, Option.bind_some, kf (by omega), kw (by omega), Option.bind_some, show u64P 0 = some 0 from rfl, Option.bind_some, kf (by omega)]
  have := kps q.tail z 0 [] (n := k + 1) (by simp; omega)
  rw [this, List.append_nil]
 by_cases hx : i < xs.length
 ·have hxB := lx xs[i] (List.getElem_mem _)
  obtain ⟨l1, l2, r1, r2⟩ := run xs[i] hxB _ rfl _ rfl
  rw [condT (by rw [decide_eq_true_eq]; omega), kbd hx, Option.bind_some, r1, Option.bind_some, kg (by rw [l1, hl]), Option.bind_some, show (0 : Int) = ((0 : Nat) : Int) from rfl, kw (by omega), Option.bind_some, r2, Option.bind_some, kg (by rw [l1, l2]), Option.bind_some]
  refine (fin _ l2 _ rfl).trans ?_
  unfold montR
  rw [kbe hx]
 ·obtain ⟨l1, l2, r1, r2⟩ := run 0 (by decide) _ rfl _ rfl
  rw [show ((0 : Nat) : Int) = 0 from rfl] at r1
  rw [condF (by rw [decide_eq_false_iff_not]; omega), r1, Option.bind_some, kg (by rw [l1, hl]), Option.bind_some, show (0 : Int) = ((0 : Nat) : Int) from rfl, kw (by omega), Option.bind_some, r2, Option.bind_some, kg (by rw [l1, l2]), Option.bind_some]
  refine (fin _ l2 _ rfl).trans ?_
  unfold montR
  rw [kpb (show xs.length ≤ i from by omega)]
theorem kuq (hk : k ≤ 60) (ln : ns.length = k) (ltn : ∀ t ∈ ns, t < B) (tn : Trim ns) (lx : ∀ t ∈ xs, t < B) (ly : ∀ t ∈ ys, t < B) (hvB : v < B) (hv : (num B ns * v + 1) % B = 0) (ho : num B ns % 2 = 1) (hX : xs.length ≤ k) (hY : num B ys < num B ns) :
  ∀ (d i : Nat), i + d = k → ∀ ts : List Nat, (∀ t ∈ ts, t < B) → ts.length = k + 2 → num B ts < num B ys + num B ns → (∃ M, num B ts * B ^ i = num B (xs.take i) * num B ys + num B ns * M) →
   Iter kmi (.p4 ns (v : Int) ones nexts xs ys (k : Int) ts (k : Int) (i : Int)) (digs B (redc (num B ns) (64 * k) (num B xs * num B ys)))
 | 0, i, hi, ts, lt, hl, hT, ⟨M, hM⟩ => by
  have hi : i = k := by omega
  subst hi
  have hN : num B ns < B ^ i := ln ▸ num_lt B1 ltn
  have h64 : B ^ i * 2 ≤ B ^ 64 := by
   calc B ^ i * 2 ≤ B ^ i * B := Nat.mul_le_mul_left _ (by decide)
    _ = B ^ (i + 1) := (Nat.pow_succ ..).symm
    _ ≤ B ^ 64 := Nat.pow_le_pow_right (by decide) (by omega)
  have rn : rt ns = true := rt_iff.2 ⟨by omega, tn⟩
  have rT : rt (digs B (num B ts)) = true := kh6 (by omega)
  rw [List.take_of_length_le hX] at hM
  have e64 : B ^ i = 2 ^ (64 * i) := by rw [show B = 2 ^ 64 from rfl, ← Nat.pow_mul]
  rw [e64] at hM
  refine .done ?_
  show khx _ _ _ _ _ _ _ _ _ _ = _
  unfold khx
  rw [condF (by rw [decide_eq_false_iff_not]; omega), k5p rT rn, ki B2]
  by_cases hc : num B ts < num B ns
  ·have : cmp (num B ts) (num B ns) = -1 := by unfold cmp; rw [if_pos hc]
   rw [this, show decide ((-1 : Int) ≥ 0) = false from rfl, cond_false]
   rw [← krr ho hc (by rw [hM, Nat.add_mul_mod_self_left])]
  ·have : decide (cmp (num B ts) (num B ns) ≥ 0) = true := by
    unfold cmp
    rw [if_neg hc]
    split <;> rfl
   rw [this, cond_true]
   unfold subN
   rw [if_pos ⟨rT, rn⟩, ki B2, if_neg hc]
   rw [← krr (r := num B ts - num B ns) ho (by omega)]
   rw [Nat.sub_mul, hM, ← Nat.add_mul_mod_self_left (_ - _) (num B ns) (2 ^ (64 * i)), Nat.sub_add_cancel]
   ·rw [Nat.add_mul_mod_self_left]
   ·rw [← hM]
    exact Nat.mul_le_mul_right _ (by omega)
 | d + 1, i, hi, ts, lt, hl, hT, ⟨M, hM⟩ => by
  have hN : num B ns < B ^ k := ln ▸ num_lt B1 ltn
  have hx : xs.getD i 0 < B := by
   rcases Nat.lt_or_ge i xs.length with h | h
   ·rw [kbe h]; exact lx _ (List.getElem_mem _)
   ·rw [kpb h]; decide
  obtain ⟨o1, o2, m, hm, o3⟩ := k4u (v := v) (ns := ns) (ys := ys) lt hl hx hv (by omega) hN hT
  refine .next (kbal hk ln ltn lx ly hvB hv hY lt hl (by omega) hT) (kuq hk ln ltn tn lx ly hvB hv ho hX hY d (i + 1) (by omega) _ o2 o1 ?_ ⟨M + B ^ i * m, ?_⟩)
  ·have := k4k hT hx hm
   rwa [o3, Nat.mul_div_cancel _ (by decide)] at this
  ·rw [k3b, Nat.pow_succ]
   have := kba0 hM o3
   rw [this, Nat.mul_comm (B ^ i) m, Nat.mul_comm m]
theorem kba9 (hk : k ≤ 60) (ln : ns.length = k) (ltn : ∀ t ∈ ns, t < B) (tn : Trim ns) (lx : ∀ t ∈ xs, t < B) (ly : ∀ t ∈ ys, t < B) (hvB : v < B) (hv : (num B ns * v + 1) % B = 0) (ho : num B ns % 2 = 1) (hX : xs.length ≤ k) (hY : num B ys < num B ns) :
  runP kmi (.fn ns (v : Int) ones nexts xs ys) = some (digs B (redc (num B ns) (64 * k) (num B xs * num B ys))) := by
 refine kd8 (.next (s' := .p4 ns (v : Int) ones nexts xs ys (k : Int) (List.replicate (k + 2) 0) (k : Int) ((0 : Nat) : Int)) ?_ (kuq hk ln ltn tn lx ly hvB hv ho hX hY k 0 (by omega) _ ?_ (by simp) ?_ ⟨0, ?_⟩))
 ·show knb _ _ _ _ _ _ = _
  unfold knb
  rw [ln, show ((k : Int) + 2) = ((k + 2 : Nat) : Int) from by omega, kbq (by omega), kdn (by omega), Option.bind_some]
  rfl
 ·intro t ht
  rw [List.eq_of_mem_replicate ht]
  decide
 ·have : num B (List.replicate (k + 2) 0) = 0 := by have := ke8 B [] (k + 2); simpa [num] using this
  rw [this]
  omega
 ·have : num B (List.replicate (k + 2) 0) = 0 := by have := ke8 B [] (k + 2); simpa [num] using this
  simp [this, num]
end
end Go.Ab

/- squeezed -/
set_option linter.unusedVariables false
set_option linter.unusedSimpArgs false
set_option maxRecDepth 10000
namespace Go.Ab
open Go.Proofs Go.Num
theorem Bl.det {x m n : Nat} (a : Bl x m) (b : Bl x n) : m = n := Nat.le_antisymm (a.le b.1) (b.le a.1)
theorem ky5 {a : Int} {h : AH} (c : 0 ≤ a ∧ a < 18446744073709551616) : go (.fn F.khl [.int .u64 a]) h = some (.int .i64 ((bl (Int.toNat a) : Nat) : Int), h) := by
 obtain ⟨x, rfl⟩ : ∃ x : Nat, a = (x : Int) := ⟨a.toNat, by omega⟩
 obtain ⟨n, e, b⟩ := ktf (x := x) (by omega) (h := h)
 rw [e, Int.toNat_natCast, b.det (bl_Bl x)]
inductive khr
 | fn (x1 : List Nat)
 | no
abbrev kfj := Int
noncomputable def ki3 (x1 : List Nat) : Option (khr ⊕ kfj) :=
 cond (!(rt x1)) (some (.inr 0)) (cond (decide ((List.length x1 : Int) = 0)) (some (.inr 0)) ((atI x1 (IntKind.wrap .i64 ((List.length x1 : Int) - 1))).bind fun y5 => (need (0 ≤ ((y5 : Int)) ∧ ((y5 : Int)) < 18446744073709551616)).bind fun c6_0 => some (.inr (IntKind.wrap .i64 ((IntKind.wrap .i64 (64 * (IntKind.wrap .i64 ((List.length x1 : Int) - 1)))) + (((bl (Int.toNat ((y5 : Int))) : Nat) : Int)))))))
noncomputable def knr : khr → Option (khr ⊕ kfj)
 | .fn x1 => ki3 x1
 | .no => none
@[reducible] def koc (h0 : AH) (r : kfj) (v : AV) (h' : AH) : Prop := v = .int .i64 r ∧ Grow h0 h'
def koe (r : kfj) : khr → Prop
 | .fn x1 => ∀ {h : AH} {a1 : Sl}, Nats h a1 x1 → Runs (go (.fn F.ki4 [a1.v]) h) (koc h r)
 | .no => True
theorem kyy {r : kfj} {o : khr ⊕ kfj} {x1 : List Nat} (e : ki3 x1 = some o) (good : GoodS (koe r) r o) : koe r (.fn x1) := by
 intro h a1 n1
 rw [k4j]
 unfold ki3 at e
 rw [n1.len]
 refine Runs.step (kfu n1) ?_
 refine Runs.step (seen rfl) ?_
 refine Runs.cond (fun k3 => ?_) (fun k3 => ?_)
 ·replace e := (condT k3).symm.trans e
  cases e
  cases good
  exact Runs.ret ⟨rfl, (Grow.refl _)⟩
 ·replace e := (condF k3).symm.trans e
  refine Runs.cond (fun k4 => ?_) (fun k4 => ?_)
  ·replace e := (condT k4).symm.trans e
   cases e
   cases good
   exact Runs.ret ⟨rfl, (Grow.refl _)⟩
  ·replace e := (condF k4).symm.trans e
   obtain ⟨y5, q5, e⟩ := Option.bind_eq_some_iff.1 e
   obtain ⟨r5, j5, l5⟩ := n1.atI q5
   refine Runs.step j5 ?_
   refine Runs.step (rdc l5 (kc _ _)) ?_
   obtain ⟨c6_0, q6_0, e⟩ := Option.bind_eq_some_iff.1 e
   refine Runs.step (ky5  c6_0.down) ?_
   refine Runs.step (seen (kc _ _)) ?_
   cases e
   cases good
   exact Runs.ret ⟨rfl, (Grow.refl _)⟩
theorem kye {s : khr} {r : kfj} (it : Iter knr s r) : koe r s := Iter.ind (fun s o e good => by
 cases s with
 | fn x1 => exact @kyy _ _ x1 e good
 | no => exact True.intro
 ) it
theorem k82 {h : AH} {a1 : Sl} {x1 : List Nat} (n1 : Nats h a1 x1) {r : kfj} (q : runP knr (.fn x1) = some r) : Runs (go (.fn F.ki4 [a1.v]) h) (koc h r) := kye (khh q) n1
inductive kg2
 | fn (x1 : List Nat) (a2 : Int)
 | no
abbrev kfk := Bool
noncomputable def ki7 (x1 : List Nat) (a2 : Int) : Option (kg2 ⊕ kfk) :=
 cond ((rt x1)) (cond (decide (a2 ≥ 0)) (cond (decide ((IntKind.wrap .i64 (Int.tdiv a2 64)) < (List.length x1 : Int))) ((atI x1 (IntKind.wrap .i64 (Int.tdiv a2 64))).bind fun y7 => cond (decide ((Int.tmod a2 64) < 0)) (none) (some (.inr (decide ((iand .u64 (ishr .u64 ((y7 : Int)) (Int.tmod a2 64)) 1) = 1))))) (some (.inr false))) (some (.inr false))) (some (.inr false))
noncomputable def knx : kg2 → Option (kg2 ⊕ kfk)
 | .fn x1 a2 => ki7 x1 a2
 | .no => none
@[reducible] def km9 (h0 : AH) (r : kfk) (v : AV) (h' : AH) : Prop := v = .bool r ∧ Grow h0 h'
def kot (r : kfk) : kg2 → Prop
 | .fn x1 a2 => ∀ {h : AH} {a1 : Sl}, Nats h a1 x1 → Runs (go (.fn F.kih [a1.v, .int .i64 a2]) h) (km9 h r)
 | .no => True
theorem k23 {r : kfk} {o : kg2 ⊕ kfk} {x1 : List Nat} {a2 : Int} (e : ki7 x1 a2 = some o) (good : GoodS (kot r) r o) : kot r (.fn x1 a2) := by
 intro h a1 n1
 rw [k3n]
 unfold ki7 at e
 rw [n1.len]
 refine Runs.step (kfu n1) ?_
 refine Runs.step (seen rfl) ?_
 refine Runs.cond (fun k4 => ?_) (fun k4 => ?_)
 ·replace e := (condT k4).symm.trans e
  refine Runs.cond (fun k5 => ?_) (fun k5 => ?_)
  ·replace e := (condT k5).symm.trans e
   refine Runs.cond (fun k6 => ?_) (fun k6 => ?_)
   ·replace e := (condT k6).symm.trans e
    obtain ⟨y7, q7, e⟩ := Option.bind_eq_some_iff.1 e
    obtain ⟨r7, j7, l7⟩ := n1.atI q7
    refine Runs.step j7 ?_
    refine Runs.step (rdc l7 (kc _ _)) ?_
    refine Runs.cond (fun k8 => ?_) (fun k8 => ?_)
    ·replace e := (condT k8).symm.trans e
     cases e
    ·replace e := (condF k8).symm.trans e
     cases e
     cases good
     exact Runs.ret ⟨rfl, (Grow.refl _)⟩
   ·replace e := (condF k6).symm.trans e
    cases e
    cases good
    exact Runs.ret ⟨rfl, (Grow.refl _)⟩
  ·replace e := (condF k5).symm.trans e
   cases e
   cases good
   exact Runs.ret ⟨rfl, (Grow.refl _)⟩
 ·replace e := (condF k4).symm.trans e
  cases e
  cases good
  exact Runs.ret ⟨rfl, (Grow.refl _)⟩
theorem k6t {s : kg2} {r : kfk} (it : Iter knx s r) : kot r s := Iter.ind (fun s o e good => by
 cases s with
 | fn x1 a2 => exact @k23 _ _ x1 a2 e good
 | no => exact True.intro
 ) it
theorem kbap {h : AH} {a1 : Sl} {x1 : List Nat} {a2 : Int} (n1 : Nats h a1 x1) {r : kfk} (q : runP knx (.fn x1 a2) = some r) : Runs (go (.fn F.kih [a1.v, .int .i64 a2]) h) (km9 h r) := k6t (khh q) n1
inductive kfh
 | fn (x1 : List Nat)
 | p6 (x1 : List Nat) (a2 : Int) (a3 : Int)
abbrev kdh := Int
noncomputable def kd6 (x1 : List Nat) : Option (kfh ⊕ kdh) :=
 cond (!(rt x1)) (some (.inr 0)) (cond (decide ((List.length x1 : Int) = 0)) (some (.inr 0)) ((atI x1 (IntKind.wrap .i64 ((List.length x1 : Int) - 1))).bind fun y5 => some (.inl (.p6 x1 0 ((y5 : Int))))))
noncomputable def kfx (x1 : List Nat) (a2 : Int) (a3 : Int) : Option (kfh ⊕ kdh) :=
 cond (decide (a3 > 0)) (some (.inl (.p6 x1 (IntKind.wrap .i64 (a2 + 1)) (IntKind.wrap .u64 (Int.tdiv a3 2))))) (some (.inr (IntKind.wrap .i64 (a2 + (IntKind.wrap .i64 (64 * (IntKind.wrap .i64 ((List.length x1 : Int) - 1))))))))
noncomputable def kkd : kfh → Option (kfh ⊕ kdh)
 | .fn x1 => kd6 x1
 | .p6 x1 a2 a3 => kfx x1 a2 a3
@[reducible] def kk6 (h0 : AH) (r : kdh) (v : AV) (h' : AH) : Prop := v = .int .i64 r ∧ Grow h0 h'
def kim (r : kdh) : kfh → Prop
 | .fn x1 => ∀ {h : AH} {a1 : Sl}, Nats h a1 x1 → Runs (go (.fn F.kd9 [a1.v]) h) (kk6 h r)
 | .p6 x1 a2 a3 => ∀ {h0 h : AH} {a1 : Sl}, Grow h0 h → Nats h a1 x1 → Runs (go (.pt F.kd9 Td.klv [(0, a1.v), (4, .int .i64 a2), (5, .int .u64 a3)]) h) (kk6 h0 r)
theorem k3c {r : kdh} {o : kfh ⊕ kdh} {x1 : List Nat} (e : kd6 x1 = some o) (good : GoodS (kim r) r o) : kim r (.fn x1) := by
 intro h a1 n1
 rw [kws]
 unfold kd6 at e
 rw [n1.len]
 refine Runs.step (kde n1) ?_
 refine Runs.step (seen rfl) ?_
 refine Runs.cond (fun k3 => ?_) (fun k3 => ?_)
 ·replace e := (condT k3).symm.trans e
  cases e
  cases good
  exact Runs.ret ⟨rfl, (Grow.refl _)⟩
 ·replace e := (condF k3).symm.trans e
  refine Runs.cond (fun k4 => ?_) (fun k4 => ?_)
  ·replace e := (condT k4).symm.trans e
   cases e
   cases good
   exact Runs.ret ⟨rfl, (Grow.refl _)⟩
  ·replace e := (condF k4).symm.trans e
   obtain ⟨y5, q5, e⟩ := Option.bind_eq_some_iff.1 e
   obtain ⟨r5, j5, l5⟩ := n1.atI q5
   refine Runs.step j5 ?_
   refine Runs.step (rdc l5 (kc _ _)) ?_
   cases e
   exact good (Grow.refl _) n1
theorem k60 {r : kdh} {o : kfh ⊕ kdh} {x1 : List Nat} {a2 : Int} {a3 : Int} (e : kfx x1 a2 a3 = some o) (good : GoodS (kim r) r o) : kim r (.p6 x1 a2 a3) := by
 intro h0 h a1 g0 n1
 rw [kba3]
 unfold kfx at e
 rw [n1.len]
 refine Runs.cond (fun k4 => ?_) (fun k4 => ?_)
 ·replace e := (condT k4).symm.trans e
  cases e
  exact good g0 n1
 ·replace e := (condF k4).symm.trans e
  cases e
  cases good
  exact Runs.ret ⟨rfl, g0⟩
theorem kwy {s : kfh} {r : kdh} (it : Iter kkd s r) : kim r s := Iter.ind (fun s o e good => by
 cases s with
 | fn x1 => exact @k3c _ _ x1 e good
 | p6 x1 a2 a3 => exact @k60 _ _ x1 a2 a3 e good
 ) it
theorem k8f {h : AH} {a1 : Sl} {x1 : List Nat} (n1 : Nats h a1 x1) {r : kdh} (q : runP kkd (.fn x1) = some r) : Runs (go (.fn F.kd9 [a1.v]) h) (kk6 h r) := kwy (khh q) n1
end Go.Ab

/- squeezed -/
set_option linter.unusedVariables false
set_option linter.unusedSimpArgs false
set_option maxRecDepth 10000
namespace Go.Ab
open Go.Proofs Go.Num
def bitsN (xs : List Nat) : Nat := if rt xs = true then bl (num B xs) else 0
def bitN (xs : List Nat) (i : Int) : Bool := rt xs && (decide (0 ≤ i) && (num B xs).testBit i.toNat)
theorem kpy {xs : List Nat} (l : ∀ x ∈ xs, x < B) : ∀ i : Nat, num B xs / B ^ i = num B (xs.drop i)
 | 0 => by simp
 | i + 1 => by
  rw [Nat.pow_succ, Nat.mul_comm, ← Nat.div_div_eq_div_mul, knp B xs]
  have h : xs.headD 0 < B := by
   cases xs with
   | nil => decide
   | cons x xs => exact l x (by simp)
  rw [Nat.add_mul_div_left _ _ (show 0 < B by decide), Nat.div_eq_of_lt h, Nat.zero_add, kpy (xs := xs.tail) (fun x hx => l x (List.mem_of_mem_tail hx)) i]
  rw [← List.drop_one, List.drop_drop, Nat.add_comm]
theorem B_pow2 (i : Nat) : B ^ i = 2 ^ (64 * i) := by rw [show B = 2 ^ 64 from rfl, ← Nat.pow_mul]
theorem bl_num {xs : List Nat} (l : ∀ x ∈ xs, x < B) (h : xs.length ≠ 0) (h0 : xs[xs.length - 1] ≠ 0) : bl (num B xs) = 64 * (xs.length - 1) + bl xs[xs.length - 1] := by
 have hd := kpy l (xs.length - 1)
 rw [List.drop_eq_getElem_cons (by omega), show xs.length - 1 + 1 = xs.length from by omega, List.drop_length, B_pow2] at hd
 have e : num B xs / 2 ^ (64 * (xs.length - 1)) = xs[xs.length - 1] := by rw [hd]; simp [num]
 refine (bl_Bl _).det (Bl.up (n := bl xs[xs.length - 1]) ?_ ?_)
 ·rw [e]; exact bl_Bl _
 ·rw [e]; omega
theorem bl_le {x m : Nat} (h : x < 2 ^ m) : bl x ≤ m := (bl_Bl x).le h
theorem kr6 {xs : List Nat} (h : rt xs = true) (hl : xs.length ≠ 0) : xs[xs.length - 1] ≠ 0 := by
 have t := (rt_iff.1 h).2 (fun e => hl (by rw [e]; rfl))
 rwa [List.getLast_eq_getElem] at t
theorem k6d {xs : List Nat} (l : ∀ x ∈ xs, x < B) : runP knr (.fn xs) = some ((bitsN xs : Nat) : Int) := by
 refine kd8 (.done ?_)
 show ki3 _ = _
 unfold ki3 bitsN
 by_cases hr : rt xs = true
 ·rw [hr, if_pos rfl, show (!true) = false from rfl, cond_false]
  have h64 := (rt_iff.1 hr).1
  by_cases hl : xs.length = 0
  ·rw [condT (by rw [decide_eq_true_eq]; omega), List.length_eq_zero_iff.1 hl]
   rfl
  ·have hb := l xs[xs.length - 1] (List.getElem_mem _)
   have hb' : xs[xs.length - 1] < 18446744073709551616 := hb
   have hbl := bl_le (x := xs[xs.length - 1]) (m := 64) hb
   rw [condF (by rw [decide_eq_false_iff_not]; omega), show ((xs.length : Int) - 1) = ((xs.length - 1 : Nat) : Int) from by omega, kbq (by omega), kbd (by omega), Option.bind_some]
   have hn : 0 ≤ ((xs[xs.length - 1] : Nat) : Int) ∧ ((xs[xs.length - 1] : Nat) : Int) < 18446744073709551616 := by omega
   simp only [kg hn, Option.bind_some]
   rw [Int.toNat_natCast, bl_num l hl (kr6 hr hl), show (64 * ((xs.length - 1 : Nat) : Int)) = ((64 * (xs.length - 1) : Nat) : Int) from by omega, kbq (by omega), ← Int.natCast_add, kbq (by omega)]
 ·rw [if_neg hr, show rt xs = false from by simpa using hr]
  rfl
theorem kx1 {h : AH} {s : Sl} {xs : List Nat} (n : Nats h s xs) : Runs (go (.fn F.ki4 [s.v]) h) (koc h (bitsN xs)) := k82 n (k6d n.lt)
theorem k0e : bl 0 = 0 := rfl
theorem k1m {x : Nat} (h : 0 < x) : bl x = bl (x / 2) + 1 := by
 by_cases h2 : x / 2 = 0
 ·have : x = 1 := by omega
  subst this
  decide
 ·have := Bl.up (x := x) (k := 1) (n := bl (x / 2)) (by rw [Nat.pow_one]; exact bl_Bl _) (by rw [Nat.pow_one]; omega)
  rw [(bl_Bl x).det this]
  omega
theorem tdiv2 (n : Nat) : Int.tdiv (n : Int) 2 = ((n / 2 : Nat) : Int) := rfl
theorem k44 {n : Nat} (h : n < 18446744073709551616) : IntKind.wrap .u64 (n : Int) = (n : Int) := by rw [wrapU]; omega
theorem k0g {xs : List Nat} (hl : xs.length ≤ 64) (h0 : xs.length ≠ 0) : ∀ (x c : Nat), x < 18446744073709551616 → c + bl x ≤ 64 →
  Iter kkd (.p6 xs (c : Int) (x : Int)) ((64 * (xs.length - 1) + (c + bl x) : Nat) : Int) := by
 intro x
 induction x using Nat.strongRecOn with
 | ind x ih =>
  intro c hx hc
  by_cases h : x = 0
  ·subst h
   refine .done ?_
   show kfx _ _ _ = _
   unfold kfx
   rw [condF (by simp), k0e, Nat.add_zero, show ((xs.length : Int) - 1) = ((xs.length - 1 : Nat) : Int) from by omega, kbq (by omega), show (64 * ((xs.length - 1 : Nat) : Int)) = ((64 * (xs.length - 1) : Nat) : Int) from by omega, kbq (by omega), ← Int.natCast_add, kbq (by omega), Nat.add_comm]
  ·have hb := k1m (x := x) (by omega)
   refine .next (s' := .p6 xs ((c + 1 : Nat) : Int) ((x / 2 : Nat) : Int)) ?_ ?_
   ·show kfx _ _ _ = _
    unfold kfx
    rw [condT (by rw [decide_eq_true_eq]; omega), kf (by omega), tdiv2, k44 (by omega)]
   ·have := ih (x / 2) (by omega) (c + 1) (by omega) (by omega)
    rwa [show c + 1 + bl (x / 2) = c + bl x from by omega] at this
theorem kbbg {xs : List Nat} (l : ∀ x ∈ xs, x < B) : runP kkd (.fn xs) = some ((bitsN xs : Nat) : Int) := by
 refine kd8 ?_
 unfold bitsN
 by_cases hr : rt xs = true
 ·have h64 := (rt_iff.1 hr).1
  by_cases hl : xs.length = 0
  ·refine .done ?_
   show kd6 _ = _
   unfold kd6
   rw [hr, if_pos rfl, show (!true) = false from rfl, cond_false, condT (by rw [decide_eq_true_eq]; omega), List.length_eq_zero_iff.1 hl]
   rfl
  ·have hb := l xs[xs.length - 1] (List.getElem_mem _)
   have hb' : xs[xs.length - 1] < 18446744073709551616 := hb
   have hbl := bl_le (x := xs[xs.length - 1]) (m := 64) hb
   have := k0g h64 hl xs[xs.length - 1] 0 hb (by omega)
   rw [Nat.zero_add] at this
   rw [if_pos hr, bl_num l hl (kr6 hr hl)]
   refine .next ?_ this
   show kd6 _ = _
   unfold kd6
   rw [hr, show (!true) = false from rfl, cond_false, condF (by rw [decide_eq_false_iff_not]; omega), show ((xs.length : Int) - 1) = ((xs.length - 1 : Nat) : Int) from by omega, kbq (by omega), kbd (by omega), Option.bind_some]
   rfl
 ·refine .done ?_
  show kd6 _ = _
  unfold kd6
  rw [if_neg hr, show rt xs = false from by simpa using hr]
  rfl
theorem k99 {h : AH} {s : Sl} {xs : List Nat} (n : Nats h s xs) : Runs (go (.fn F.kd9 [s.v]) h) (kk6 h (bitsN xs)) := k8f n (kbbg n.lt)
theorem kw8 {x : Nat} (hx : x < 18446744073709551616) : iand .u64 (x : Int) 1 = ((x % 2 : Nat) : Int) := by
 unfold iand
 rw [show IntKind.bits .u64 = 64 from rfl, wrapU]
 have e1 : BitVec.ofInt 64 (x : Int) = BitVec.ofNat 64 x := rfl
 have e2 : BitVec.ofInt 64 1 = BitVec.ofNat 64 1 := rfl
 rw [e1, e2, BitVec.toNat_and, BitVec.toNat_ofNat, BitVec.toNat_ofNat]
 rw [Nat.mod_eq_of_lt (show x < 2 ^ 64 from hx), Nat.mod_eq_of_lt (show 1 < 2 ^ 64 from by decide), Nat.and_one_is_mod]
 omega
theorem krs {xs : List Nat} (l : ∀ x ∈ xs, x < B) {q r : Nat} (hq : q < xs.length) (hr : r < 64) : (num B xs).testBit (64 * q + r) = decide (xs[q] / 2 ^ r % 2 = 1) := by
 rw [Nat.testBit_eq_decide_div_mod_eq, Nat.pow_add, ← Nat.div_div_eq_div_mul, ← B_pow2, kpy l, List.drop_eq_getElem_cons hq, kky]
 generalize num B (xs.drop (q + 1)) = Y
 congr 2
 have e : B = 2 ^ r * (2 ^ (63 - r) * 2) := by
  rw [← Nat.pow_succ, ← Nat.pow_add, show r + (63 - r).succ = 64 from by omega]
 have e2 : xs[q] + B * Y = xs[q] + 2 ^ r * (2 ^ (63 - r) * 2 * Y) := by rw [← Nat.mul_assoc, ← e]
 rw [e2, Nat.add_mul_div_left _ _ (Nat.pow_pos (by decide)), show 2 ^ (63 - r) * 2 * Y = 2 * (2 ^ (63 - r) * Y) from by rw [Nat.mul_comm (2 ^ (63 - r)) 2, Nat.mul_assoc], Nat.add_mul_mod_self_left]
theorem k0m {xs : List Nat} (l : ∀ x ∈ xs, x < B) {i : Nat} (hq : xs.length ≤ i / 64) : (num B xs).testBit i = false := by
 refine Nat.testBit_lt_two_pow ?_
 have h1 := num_lt B1 l
 rw [B_pow2] at h1
 have h2 : 2 ^ (64 * xs.length) ≤ 2 ^ i := Nat.pow_le_pow_right (by decide) (by omega)
 omega
theorem tdiv64 (n : Nat) : Int.tdiv (n : Int) 64 = ((n / 64 : Nat) : Int) := rfl
theorem tmod64 (n : Nat) : Int.tmod (n : Int) 64 = ((n % 64 : Nat) : Int) := rfl
theorem tmod2 (n : Nat) : Int.tmod (n : Int) 2 = ((n % 2 : Nat) : Int) := rfl
theorem k56 {xs : List Nat} {i : Int} (h : rt xs = false) : bitN xs i = false := by unfold bitN; rw [h]; rfl
theorem k6a {xs : List Nat} {i : Int} (h : i < 0) : bitN xs i = false := by unfold bitN; rw [show decide (0 ≤ i) = false from by rw [decide_eq_false_iff_not]; omega]; cases rt xs <;> rfl
theorem kt9 {xs : List Nat} {i : Nat} (h : rt xs = true) : bitN xs (i : Int) = (num B xs).testBit i := by unfold bitN; rw [h, show decide (0 ≤ (i : Int)) = true from by rw [decide_eq_true_eq]; omega]; rfl
theorem kx0 {xs : List Nat} (l : ∀ x ∈ xs, x < B) {i : Int} (hi : i ≤ 9223372036854775807) : runP knx (.fn xs i) = some (bitN xs i) := by
 refine kd8 (.done ?_)
 show ki7 _ _ = _
 unfold ki7
 by_cases hr : rt xs = true
 ·rw [hr, cond_true]
  by_cases h0 : i < 0
  ·rw [condF (by rw [decide_eq_false_iff_not]; omega), k6a h0]
  ·obtain ⟨j, rfl⟩ : ∃ j : Nat, i = (j : Int) := ⟨i.toNat, by omega⟩
   rw [condT (by rw [decide_eq_true_eq]; omega), kt9 hr, tdiv64, tmod64, kbq (by omega)]
   by_cases hq : j / 64 < xs.length
   ·have hb : xs[j / 64] < 18446744073709551616 := l _ (List.getElem_mem _)
    have h2 : xs[j / 64] / 2 ^ (j % 64) < 18446744073709551616 := Nat.lt_of_le_of_lt (Nat.div_le_self _ _) hb
    rw [condT (by rw [decide_eq_true_eq]; omega), kbd hq, Option.bind_some, condF (by rw [decide_eq_false_iff_not]; omega), kbn, Nat.min_eq_left (by omega), kw8 h2]
    have := krs l hq (Nat.mod_lt j (show 0 < 64 by decide))
    rw [Nat.div_add_mod] at this
    rw [this]
    generalize xs[j / 64] / 2 ^ (j % 64) = z
    congr 3
    exact propext (by omega)
   ·rw [condF (by rw [decide_eq_false_iff_not]; omega), k0m l (by omega)]
 ·rw [show rt xs = false from by simpa using hr, cond_false, k56 (by simpa using hr)]
theorem kzf {h : AH} {s : Sl} {xs : List Nat} (n : Nats h s xs) {i : Int} (hi : i ≤ 9223372036854775807) : Runs (go (.fn F.kih [s.v, .int .i64 i]) h) (km9 h (bitN xs i)) := kbap n (kx0 n.lt hi)
end Go.Ab

/- squeezed -/
set_option linter.unusedVariables false
set_option linter.unusedSimpArgs false
set_option maxRecDepth 10000
namespace Go.Ab
open Go.Proofs Go.Num
end Go.Ab

/- squeezed -/
set_option linter.unusedVariables false
set_option linter.unusedSimpArgs false
set_option maxRecDepth 10000
namespace Go.Ab
open Go.Proofs Go.Num
end Go.Ab

/- squeezed -/
set_option linter.unusedVariables false
set_option linter.unusedSimpArgs false
set_option maxRecDepth 10000
namespace Go.Ab
open Go.Proofs Go.Num
theorem ksa {n : Nat} (h : n ≤ 1000000) : growOk Pg n T.kp 1 = true := by
 unfold growOk
 rw [kxo, k1y]
 have h1 : n * 24 ≤ ks := by simp only [ks]; omega
 have h2 : n ≤ ks := by simp only [ks]; omega
 simp [h1, h2]
structure RingOk (N k v : Nat) : Prop where
 hk : k ≤ 60
 lt : N < B ^ k
 one : 1 < N
 odd : N % 2 = 1
 hv : v < B
 inv : (N * v + 1) % B = 0
 len : (digs B N).length = k
def form (N k u : Nat) : List Nat := digs B (u * 2 ^ (64 * k) % N)
section
variable {N k v : Nat} {ones nexts : List Nat}
theorem RingOk.prod (r : RingOk N k v) {X Y : Nat} (hX : X < N) (hY : Y < N) : runP kmi (.fn (digs B N) (v : Int) ones nexts (digs B X) (digs B Y)) = some (digs B (redc N (64 * k) (X * Y))) := by
 have := kba9 (ns := digs B N) (xs := digs B X) (ys := digs B Y) (ones := ones) (nexts := nexts) r.hk r.len (kbk B2 N) (kb7 B2 N) (kbk B2 X) (kbk B2 Y) r.hv
  (by rw [ki B2]; exact r.inv) (by rw [ki B2]; exact r.odd) ((kv B2 X k).2 (Nat.lt_trans hX r.lt)) (by rw [ki B2, ki B2]; exact hY)
 simpa only [ki B2] using this
theorem RingOk.out (r : RingOk N k v) (x : Nat) : runP kmi (.fn (digs B N) (v : Int) ones nexts (form N k x) [1]) = some (digs B (x % N)) := by
 have hN : 0 < N := by have := r.one; omega
 have h1 : ([1] : List Nat) = digs B 1 := by rw [kdw B2 (by decide), show 1 / B = 0 from rfl, kb2]; rfl
 unfold form
 rw [h1, r.prod (Nat.mod_lt _ hN) r.one, kza r.odd]
end
end Go.Ab

/- squeezed -/
set_option linter.unusedVariables false
set_option linter.unusedSimpArgs false
set_option maxRecDepth 10000
namespace Go.Ab
open Go.Proofs Go.Num
end Go.Ab

/- squeezed -/
set_option linter.unusedVariables false
set_option linter.unusedSimpArgs false
set_option maxRecDepth 10000
namespace Go.Ab
open Go.Proofs Go.Num
end Go.Ab

/- squeezed -/
set_option linter.unusedVariables false
set_option linter.unusedSimpArgs false
set_option maxRecDepth 10000
namespace Go.Ab
open Go.Proofs Go.Num
def kb1 (x1 : List Nat) : List Nat :=
 (mulN x1 x1).1
theorem k6k {h : AH} {a1 : Sl} {x1 : List Nat} (n1 : Nats h a1 x1)  : Runs (go (.fn F.kni [a1.v]) h) fun v h' => ∃ s1 : Sl, v = s1.v ∧ Nats h' s1 (kb1 x1) ∧ Grow h h' ∧ Own h s1 := by
 rw [k00]
 obtain ⟨s2, H2, e2, n2, g2, o2⟩ := kpl n1 n1
 refine Runs.step e2 ?_
 refine Runs.step rfl ?_
 refine Runs.step (seen (asSl_v _)) ?_
 refine Runs.step (seen (kc _ _)) ?_
 have z : kb1 x1 = (mulN x1 x1).1 := by unfold kb1; exact rfl
 rw [z]
 exact Runs.ret ⟨s2, rfl, n2, g2, (o2.of_le (Grow.refl _))⟩
def kbw (x1 : List Nat) : Bool :=
 cond ((rt x1)) (cond (((bitN x1 0))) (cond (decide ((((bitsN x1 : Nat) : Int)) ≥ 15)) (decide ((((bitsN x1 : Nat) : Int)) ≤ 80)) (false)) (false)) (false)
theorem kv0 {h : AH} {a1 : Sl} {x1 : List Nat} (n1 : Nats h a1 x1)  : Runs (go (.fn F.kli [a1.v]) h) fun v h' => v = .bool (kbw x1) ∧ Grow h h' := by
 rw [k4z]
 obtain ⟨_, H2, e2, rfl, g2⟩ := kx1 n1
 refine Runs.step e2 ?_
 refine Runs.step (seen (kc _ _)) ?_
 refine Runs.step (kfu (n1.grow g2)) ?_
 refine Runs.step (seen rfl) ?_
 refine Runs.cond (fun k4 => ?_) (fun k4 => ?_)
 ·obtain ⟨_, H5, e5, rfl, g5⟩ := kzf (n1.grow g2) (i := 0) (by decide)
  refine Runs.step e5 ?_
  refine Runs.step (seen rfl) ?_
  refine Runs.cond (fun k6 => ?_) (fun k6 => ?_)
  ·refine Runs.cond (fun k7 => ?_) (fun k7 => ?_)
   ·have z : kbw x1 = decide ((((bitsN x1 : Nat) : Int)) ≤ 80) := by unfold kbw; exact (condT k4).trans ((condT k6).trans ((condT k7).trans rfl))
    rw [z]
    exact Runs.ret ⟨rfl, (g2.trans g5)⟩
   ·have z : kbw x1 = false := by unfold kbw; exact (condT k4).trans ((condT k6).trans ((condF k7).trans rfl))
    rw [z]
    exact Runs.ret ⟨rfl, (g2.trans g5)⟩
  ·have z : kbw x1 = false := by unfold kbw; exact (condT k4).trans ((condF k6).trans rfl)
   rw [z]
   exact Runs.ret ⟨rfl, (g2.trans g5)⟩
 ·have z : kbw x1 = false := by unfold kbw; exact (condF k4).trans rfl
  rw [z]
  exact Runs.ret ⟨rfl, g2⟩
def kb3 (x1 : List Nat) (x2 : List Nat) (x3 : List Nat) : Bool :=
 cond (!(rt x1)) (false) (cond (decide ((List.length x1 : Int) = 0)) (false) (cond (decide ((cmpN x1 x3) ≥ 0)) (false) (decide ((cmpN ((gcdN x1 x2).1) [1]) = 0))))
theorem k8e {h : AH} {a1 : Sl} {x1 : List Nat} {a2 : Sl} {x2 : List Nat} {a3 : Sl} {x3 : List Nat} (n1 : Nats h a1 x1) (n2 : Nats h a2 x2) (n3 : Nats h a3 x3)  : Runs (go (.fn F.kn5 [a1.v, a2.v, a3.v]) h) fun v h' => v = .bool (kb3 x1 x2 x3) ∧ Grow h h' := by
 rw [kz8]
 rw [n1.len]
 refine Runs.step (kfu n1) ?_
 refine Runs.step (seen rfl) ?_
 refine Runs.cond (fun k5 => ?_) (fun k5 => ?_)
 ·have z : kb3 x1 x2 x3 = false := by unfold kb3; exact (condT k5).trans rfl
  rw [z]
  exact Runs.ret ⟨rfl, (Grow.refl _)⟩
 ·refine Runs.cond (fun k6 => ?_) (fun k6 => ?_)
  ·have z : kb3 x1 x2 x3 = false := by unfold kb3; exact (condF k5).trans ((condT k6).trans rfl)
   rw [z]
   exact Runs.ret ⟨rfl, (Grow.refl _)⟩
  ·obtain ⟨H7, e7, g7⟩ := kq9 n1 n3
   refine Runs.step e7 ?_
   refine Runs.step (seen (kc _ _)) ?_
   refine Runs.cond (fun k8 => ?_) (fun k8 => ?_)
   ·have z : kb3 x1 x2 x3 = false := by unfold kb3; exact (condF k5).trans ((condF k6).trans ((condT k8).trans rfl))
    rw [z]
    exact Runs.ret ⟨rfl, g7⟩
   ·obtain ⟨_, H9, e9, s9, rfl, n9, g9, o9⟩ := k9c (n1.grow g7) (n2.grow g7)
    refine Runs.step e9 ?_
    refine Runs.step rfl ?_
    refine Runs.step (seen (asSl_v _)) ?_
    refine Runs.step (seen (kc _ _)) ?_
    refine Runs.new fun H10 b10 g10 => ?_
    obtain ⟨H11, e11, g11⟩ := kq9 (n9.grow g10) (Nats.of_has (xs := [1]) b10 (by decide) (by decide))
    refine Runs.step e11 ?_
    refine Runs.step (seen (kc _ _)) ?_
    have z : kb3 x1 x2 x3 = decide ((cmpN ((gcdN x1 x2).1) [1]) = 0) := by unfold kb3; exact (condF k5).trans ((condF k6).trans ((condF k8).trans rfl))
    rw [z]
    have G12 := (((g7.trans g9).trans g10).trans g11)
    exact Runs.ret ⟨rfl, G12⟩
def ken (x1 : List Nat) (x2 : List Nat) : Bool :=
 cond (((kbw x1))) (((kb3 x2 x1 (kb1 x1)))) (false)
theorem k21 {h : AH} {a1 : Sl} {x1 : List Nat} {a2 : Sl} {x2 : List Nat} (n1 : Nats h a1 x1) (n2 : Nats h a2 x2)  : Runs (go (.fn F.knm [a1.v, a2.v]) h) fun v h' => v = .bool (ken x1 x2) ∧ Grow h h' := by
 rw [k88]
 obtain ⟨_, H3, e3, rfl, g3⟩ := kv0 n1
 refine Runs.step e3 ?_
 refine Runs.step (seen rfl) ?_
 refine Runs.cond (fun k4 => ?_) (fun k4 => ?_)
 ·obtain ⟨_, H5, e5, s5, rfl, n5, g5, o5⟩ := k6k (n1.grow g3)
  refine Runs.step e5 ?_
  refine Runs.step (seen (asSl_v _)) ?_
  obtain ⟨_, H6, e6, rfl, g6⟩ := k8e (n2.grow (g3.trans g5)) (n1.grow (g3.trans g5)) n5
  refine Runs.step e6 ?_
  refine Runs.step (seen rfl) ?_
  have z : ken x1 x2 = ((kb3 x2 x1 (kb1 x1))) := by unfold ken; exact (condT k4).trans rfl
  rw [z]
  have G7 := ((g3.trans g5).trans g6)
  exact Runs.ret ⟨rfl, G7⟩
 ·have z : ken x1 x2 = false := by unfold ken; exact (condF k4).trans rfl
  rw [z]
  exact Runs.ret ⟨rfl, g3⟩
def kka (x1 : List Nat) : List Nat :=
 (mulN x1 x1).1
theorem k8d {h : AH} {a1 : Sl} {x1 : List Nat} (n1 : Nats h a1 x1)  : Runs (go (.fn F.kh9 [a1.v]) h) fun v h' => ∃ s1 : Sl, v = s1.v ∧ Nats h' s1 (kka x1) ∧ Grow h h' ∧ Own h s1 := by
 rw [k72]
 obtain ⟨s2, H2, e2, n2, g2, o2⟩ := ks3 n1 n1
 refine Runs.step e2 ?_
 refine Runs.step rfl ?_
 refine Runs.step (seen (asSl_v _)) ?_
 refine Runs.step (seen (kc _ _)) ?_
 have z : kka x1 = (mulN x1 x1).1 := by unfold kka; exact rfl
 rw [z]
 exact Runs.ret ⟨s2, rfl, n2, g2, (o2.of_le (Grow.refl _))⟩
def kdo (x1 : List Nat) (x2 : List Nat) (x3 : List Nat) : Bool :=
 cond (!(rt x1)) (false) (cond (decide ((List.length x1 : Int) = 0)) (false) (cond (decide ((cmpN x1 x3) ≥ 0)) (false) (decide ((cmpN ((gcdN x1 x2).1) [1]) = 0))))
theorem kyf {h : AH} {a1 : Sl} {x1 : List Nat} {a2 : Sl} {x2 : List Nat} {a3 : Sl} {x3 : List Nat} (n1 : Nats h a1 x1) (n2 : Nats h a2 x2) (n3 : Nats h a3 x3)  : Runs (go (.fn F.kkt [a1.v, a2.v, a3.v]) h) fun v h' => v = .bool (kdo x1 x2 x3) ∧ Grow h h' := by
 rw [k5m]
 rw [n1.len]
 refine Runs.step (kde n1) ?_
 refine Runs.step (seen rfl) ?_
 refine Runs.cond (fun k5 => ?_) (fun k5 => ?_)
 ·have z : kdo x1 x2 x3 = false := by unfold kdo; exact (condT k5).trans rfl
  rw [z]
  exact Runs.ret ⟨rfl, (Grow.refl _)⟩
 ·refine Runs.cond (fun k6 => ?_) (fun k6 => ?_)
  ·have z : kdo x1 x2 x3 = false := by unfold kdo; exact (condF k5).trans ((condT k6).trans rfl)
   rw [z]
   exact Runs.ret ⟨rfl, (Grow.refl _)⟩
  ·obtain ⟨H7, e7, g7⟩ := kvl n1 n3
   refine Runs.step e7 ?_
   refine Runs.step (seen (kc _ _)) ?_
   refine Runs.cond (fun k8 => ?_) (fun k8 => ?_)
   ·have z : kdo x1 x2 x3 = false := by unfold kdo; exact (condF k5).trans ((condF k6).trans ((condT k8).trans rfl))
    rw [z]
    exact Runs.ret ⟨rfl, g7⟩
   ·obtain ⟨_, H9, e9, s9, rfl, n9, g9, o9⟩ := k61 (n1.grow g7) (n2.grow g7)
    refine Runs.step e9 ?_
    refine Runs.step rfl ?_
    refine Runs.step (seen (asSl_v _)) ?_
    refine Runs.step (seen (kc _ _)) ?_
    obtain ⟨s10, H10, e10, n10, g10, o10⟩ := kvw
    refine Runs.step e10 ?_
    refine Runs.step (seen (asSl_v _)) ?_
    obtain ⟨H11, e11, g11⟩ := kvl (n9.grow g10) n10
    refine Runs.step e11 ?_
    refine Runs.step (seen (kc _ _)) ?_
    have z : kdo x1 x2 x3 = decide ((cmpN ((gcdN x1 x2).1) [1]) = 0) := by unfold kdo; exact (condF k5).trans ((condF k6).trans ((condF k8).trans rfl))
    rw [z]
    have G12 := (((g7.trans g9).trans g10).trans g11)
    exact Runs.ret ⟨rfl, G12⟩
def kja (x1 : List Nat) (x2 : List Nat) (x3 : List Nat) : List Nat :=
 (divN ((mulN x1 x2).1) x3).2.1
theorem kbaa {h : AH} {a1 : Sl} {x1 : List Nat} {a2 : Sl} {x2 : List Nat} {a3 : Sl} {x3 : List Nat} (n1 : Nats h a1 x1) (n2 : Nats h a2 x2) (n3 : Nats h a3 x3)  : Runs (go (.fn F.kog [a1.v, a2.v, a3.v]) h) fun v h' => ∃ s1 : Sl, v = s1.v ∧ Nats h' s1 (kja x1 x2 x3) ∧ Grow h h' ∧ Own h s1 := by
 rw [k4w]
 obtain ⟨s4, H4, e4, n4, g4, o4⟩ := ks3 n1 n2
 refine Runs.step e4 ?_
 refine Runs.step rfl ?_
 refine Runs.step (seen (asSl_v _)) ?_
 refine Runs.step (seen (kc _ _)) ?_
 obtain ⟨s5, H5, e5, n5, g5, o5⟩ := ksn n4 (n3.grow g4)
 refine Runs.step e5 ?_
 refine Runs.step (seen (asSl_v _)) ?_
 have z : kja x1 x2 x3 = (divN ((mulN x1 x2).1) x3).2.1 := by unfold kja; exact rfl
 rw [z]
 exact Runs.ret ⟨s5, rfl, n5, (g4.trans g5), (o5.of_le g4)⟩
theorem kze : kka = kb1 := rfl
theorem ktc {h : AH} {a1 : Sl} {x1 : List Nat} (n1 : Nats h a1 x1)  : Runs (go (.fn F.kh9 [a1.v]) h) fun v h' => ∃ s1 : Sl, v = s1.v ∧ Nats h' s1 (kb1 x1) ∧ Grow h h' ∧ Own h s1 := by
 rw [← kze]
 exact k8d n1
theorem k3p : kdo = kb3 := rfl
theorem k8y {h : AH} {a1 : Sl} {x1 : List Nat} {a2 : Sl} {x2 : List Nat} {a3 : Sl} {x3 : List Nat} (n1 : Nats h a1 x1) (n2 : Nats h a2 x2) (n3 : Nats h a3 x3)  : Runs (go (.fn F.kkt [a1.v, a2.v, a3.v]) h) fun v h' => v = .bool (kb3 x1 x2 x3) ∧ Grow h h' := by
 rw [← k3p]
 exact kyf n1 n2 n3
inductive kht
 | fn (x1 : List Nat)
 | no
abbrev kfl := Bool
noncomputable def kh5 (x1 : List Nat) : Option (kht ⊕ kfl) :=
 cond ((rt x1)) (cond (decide ((List.length x1 : Int) > 0)) ((atI x1 0).bind fun y6 => cond (decide ((Int.tmod ((y6 : Int)) 2) = 1)) (cond (decide ((((bitsN x1 : Nat) : Int)) ≥ 15)) (some (.inr (decide ((((bitsN x1 : Nat) : Int)) ≤ 80)))) (some (.inr false))) (some (.inr false))) (some (.inr false))) (some (.inr false))
noncomputable def kpu : kht → Option (kht ⊕ kfl)
 | .fn x1 => kh5 x1
 | .no => none
@[reducible] def kuu (h0 : AH) (r : kfl) (v : AV) (h' : AH) : Prop := v = .bool r ∧ Grow h0 h'
def kn7 (r : kfl) : kht → Prop
 | .fn x1 => ∀ {h : AH} {a1 : Sl}, Nats h a1 x1 → Runs (go (.fn F.khc [a1.v]) h) (kuu h r)
 | .no => True
theorem kwq {r : kfl} {o : kht ⊕ kfl} {x1 : List Nat} (e : kh5 x1 = some o) (good : GoodS (kn7 r) r o) : kn7 r (.fn x1) := by
 intro h a1 n1
 rw [kbbf]
 unfold kh5 at e
 rw [n1.len]
 refine Runs.step (kde n1) ?_
 refine Runs.step (seen rfl) ?_
 obtain ⟨_, H3, e3, rfl, g3⟩ := k99 n1
 refine Runs.step e3 ?_
 refine Runs.step (seen (kc _ _)) ?_
 refine Runs.cond (fun k4 => ?_) (fun k4 => ?_)
 ·replace e := (condT k4).symm.trans e
  refine Runs.cond (fun k5 => ?_) (fun k5 => ?_)
  ·replace e := (condT k5).symm.trans e
   obtain ⟨y6, q6, e⟩ := Option.bind_eq_some_iff.1 e
   obtain ⟨r6, j6, l6⟩ := (n1.grow g3).atI q6
   refine Runs.step j6 ?_
   refine Runs.step (rdc l6 (kc _ _)) ?_
   refine Runs.cond (fun k7 => ?_) (fun k7 => ?_)
   ·replace e := (condT k7).symm.trans e
    refine Runs.cond (fun k8 => ?_) (fun k8 => ?_)
    ·replace e := (condT k8).symm.trans e
     cases e
     cases good
     exact Runs.ret ⟨rfl, g3⟩
    ·replace e := (condF k8).symm.trans e
     cases e
     cases good
     exact Runs.ret ⟨rfl, g3⟩
   ·replace e := (condF k7).symm.trans e
    cases e
    cases good
    exact Runs.ret ⟨rfl, g3⟩
  ·replace e := (condF k5).symm.trans e
   cases e
   cases good
   exact Runs.ret ⟨rfl, g3⟩
 ·replace e := (condF k4).symm.trans e
  cases e
  cases good
  exact Runs.ret ⟨rfl, g3⟩
theorem k62 {s : kht} {r : kfl} (it : Iter kpu s r) : kn7 r s := Iter.ind (fun s o e good => by
 cases s with
 | fn x1 => exact @kwq _ _ x1 e good
 | no => exact True.intro
 ) it
theorem k7x {h : AH} {a1 : Sl} {x1 : List Nat} (n1 : Nats h a1 x1) {r : kfl} (q : runP kpu (.fn x1) = some r) : Runs (go (.fn F.khc [a1.v]) h) (kuu h r) := k62 (khh q) n1
theorem bit0 {xs : List Nat} (l : ∀ x ∈ xs, x < B) (h : 0 < xs.length) (r : rt xs = true) : bitN xs 0 = decide (xs[0] % 2 = 1) := by
 have := krs l (q := 0) (r := 0) h (by decide)
 rw [Nat.pow_zero, Nat.div_one] at this
 rw [show (0 : Int) = ((0 : Nat) : Int) from rfl, kt9 r]
 exact this
theorem k4e {xs : List Nat} (l : ∀ x ∈ xs, x < B) : Iter kpu (.fn xs) (kbw xs) := by
 refine .done ?_
 show kh5 _ = _
 unfold kh5 kbw
 cases hr : rt xs with
 | false => rfl
 | true =>
  rw [cond_true, cond_true]
  by_cases hl : 0 < xs.length
  ·rw [condT (by rw [decide_eq_true_eq]; omega), show (0 : Int) = ((0 : Nat) : Int) from rfl, kbd hl, Option.bind_some, tmod2, show ((0 : Nat) : Int) = 0 from rfl, bit0 l hl hr]
   have : decide (((xs[0] % 2 : Nat) : Int) = 1) = decide (xs[0] % 2 = 1) := by rw [decide_eq_decide]; omega
   rw [this]
   cases decide (xs[0] % 2 = 1)
   ·rfl
   ·rw [cond_true, cond_true]
    cases decide (((bitsN xs : Nat) : Int) ≥ 15) <;> rfl
  ·have : xs = [] := List.length_eq_zero_iff.1 (by omega)
   subst this
   rfl
theorem kqk {h : AH} {s : Sl} {xs : List Nat} (n : Nats h s xs) : Runs (go (.fn F.khc [s.v]) h) fun v h' => v = .bool (kbw xs) ∧ Grow h h' := k7x n (kd8 (k4e n.lt))
def khf (x1 : List Nat) (x2 : List Nat) : Bool :=
 cond (((kbw x1))) (((kb3 x2 x1 (kb1 x1)))) (false)
theorem k3d {h : AH} {a1 : Sl} {x1 : List Nat} {a2 : Sl} {x2 : List Nat} (n1 : Nats h a1 x1) (n2 : Nats h a2 x2)  : Runs (go (.fn F.kkh [a1.v, a2.v]) h) fun v h' => v = .bool (khf x1 x2) ∧ Grow h h' := by
 rw [k8c]
 obtain ⟨_, H3, e3, rfl, g3⟩ := kqk n1
 refine Runs.step e3 ?_
 refine Runs.step (seen rfl) ?_
 refine Runs.cond (fun k4 => ?_) (fun k4 => ?_)
 ·obtain ⟨_, H5, e5, s5, rfl, n5, g5, o5⟩ := ktc (n1.grow g3)
  refine Runs.step e5 ?_
  refine Runs.step (seen (asSl_v _)) ?_
  obtain ⟨_, H6, e6, rfl, g6⟩ := k8y (n2.grow (g3.trans g5)) (n1.grow (g3.trans g5)) n5
  refine Runs.step e6 ?_
  refine Runs.step (seen rfl) ?_
  have z : khf x1 x2 = ((kb3 x2 x1 (kb1 x1))) := by unfold khf; exact (condT k4).trans rfl
  rw [z]
  have G7 := ((g3.trans g5).trans g6)
  exact Runs.ret ⟨rfl, G7⟩
 ·have z : khf x1 x2 = false := by unfold khf; exact (condF k4).trans rfl
  rw [z]
  exact Runs.ret ⟨rfl, g3⟩
theorem kzk : khf = ken := rfl
theorem k2c {h : AH} {a1 : Sl} {x1 : List Nat} {a2 : Sl} {x2 : List Nat} (n1 : Nats h a1 x1) (n2 : Nats h a2 x2)  : Runs (go (.fn F.kkh [a1.v, a2.v]) h) fun v h' => v = .bool (ken x1 x2) ∧ Grow h h' := by
 rw [← kzk]
 exact k3d n1 n2
end Go.Ab

/- squeezed -/
set_option linter.unusedVariables false
set_option linter.unusedSimpArgs false
set_option maxRecDepth 10000
namespace Go.Ab
open Go.Proofs Go.Num
end Go.Ab

/- squeezed -/
set_option linter.unusedVariables false
set_option linter.unusedSimpArgs false
set_option maxRecDepth 10000
namespace Go.Ab
open Go.Proofs Go.Num
end Go.Ab

/- squeezed -/
set_option linter.unusedVariables false
set_option linter.unusedSimpArgs false
set_option maxRecDepth 10000
namespace Go.Ab
open Go.Proofs Go.Num
end Go.Ab

/- squeezed -/
set_option linter.unusedVariables false
set_option linter.unusedSimpArgs false
set_option maxRecDepth 10000
namespace Go.Ab
open Go.Proofs Go.Num
end Go.Ab

/- squeezed -/
set_option linter.unusedVariables false
set_option linter.unusedSimpArgs false
set_option maxRecDepth 10000
namespace Go.Ab
open Go.Proofs Go.Num
end Go.Ab

/- squeezed -/
set_option linter.unusedVariables false
set_option linter.unusedSimpArgs false
set_option maxRecDepth 10000
namespace Go.Ab
open Go.Proofs Go.Num
section
variable {ns xs es : List Nat} (ln : ∀ x ∈ ns, x < B) (le : ∀ x ∈ es, x < B)
include ln le
end
section
variable {ns xs ys : List Nat} (ln : ∀ x ∈ ns, x < B) (lx : ∀ x ∈ xs, x < B) (ly : ∀ x ∈ ys, x < B)
include ln lx
end
section
variable {h : AH} {s t u : Sl} {ns xs ys : List Nat} (n : Nats h s ns) (m : Nats h t xs) (k : Nats h u ys)
include n m k
end
end Go.Ab

/- squeezed -/
set_option linter.unusedVariables false
set_option linter.unusedSimpArgs false
set_option maxRecDepth 10000
namespace Go.Ab
open Go.Proofs Go.Num
end Go.Ab
