/- squeezed -/
import Derived.Test.YthpakkpckmjhjaaGreatDoorPP4
import Derived.Test.YthpakkpckmjhjaaGreatDoorPS52

set_option linter.unusedVariables false
set_option linter.unusedSimpArgs false
set_option maxRecDepth 10000
namespace Go.Ab
open Go.Proofs
section
variable {h0 : AH} {S : Fp} {s1 s2 s3 s u : Sl} {t : Tb} {n : Int} {w : List Nat} {g : List Int}
theorem klw {h : AH} {i : Nat} {xs : List Int} {e : TypeId} (b : h.has i (xs.map (AV.int .i64)) e) (hs : xs.length ≤ 9223372036854775807) : Sq EI h (Fp.or (fun j => j = i) Fp.no) ⟨some (.new i 0), xs.length, .is xs.length⟩ xs := by
 refine Sq.lit (rows := xs.map fun x => [AV.int .i64 x]) (e := e) ?_ ?_ rfl hs
 ·have : (xs.map fun x => [AV.int .i64 x]).flatten = xs.map (AV.int .i64) := by
   clear b hs
   induction xs with
   | nil => rfl
   | cons x xs ih => rw [List.map_cons, List.flatten_cons, ih]; rfl
  rw [this]
  exact b
 ·clear b hs
  induction xs with
  | nil => exact .nil
  | cons x xs ih => exact .cons rfl ih
theorem k5s : plainH ⟨[0, 1, 2], [2], [[0, 1, 1]]⟩ 3 [3] [5, 6, 7] = ([(5, 1)], 0) := by decide +kernel
theorem k26 (T0 : Tab h0) : Runs (go (.fn F.kom []) h0) fun v h' => v = .bool true ∧ Grow h0 h' := by
 rw [k7n]
 refine Runs.new fun h1 b1 g1 => Runs.new fun h2 b2 g2 => Runs.new fun h3 b3 g3 => Runs.new fun h4 b4 g4 => Runs.new fun h5 b5 g5 => Runs.puts b5 rfl fun h6 b6 u6 => ?_
 have G6 : Grow h4 h6 := g5.updr (Nat.le_refl _) u6
 refine Runs.step (b6.rd 0 rfl (asSl_v _)) (Runs.step (b6.rd 1 rfl (asSl_v _)) (Runs.step (b6.rd 2 rfl (asSl_v _)) ?_))
 refine Runs.new fun h7 b7 g7 => Runs.new fun h8 b8 g8 => ?_
 have G48 := (G6.trans g7).trans g8
 have G08 : Grow h0 h8 := (((g1.trans g2).trans g3).trans g4).trans G48
 have q1 : Sq EI h8 Fp.all ⟨some (.new h0.blks.size 0), 3, .is 3⟩ [0, 1, 2] := (klw (xs := [0, 1, 2]) (((g2.trans g3).trans g4 |>.trans G48).has b1) (by decide)).mono fun _ _ => trivial
 have q2 : Sq EI h8 Fp.all ⟨some (.new h1.blks.size 0), 1, .is 1⟩ [2] := (klw (xs := [2]) (((g3.trans g4).trans G48).has b2) (by decide)).mono fun _ _ => trivial
 have q3 : Sq EI h8 Fp.all ⟨some (.new h2.blks.size 0), 3, .is 3⟩ [0, 1, 1] := (klw (xs := [0, 1, 1]) ((g4.trans G48).has b3) (by decide)).mono fun _ _ => trivial
 have q4 : Sq (Ef.seq EI) h8 Fp.all ⟨some (.new h3.blks.size 0), 1, .is 1⟩ [[0, 1, 1]] := (Sq.lit (E := Ef.seq EI) (rows := [[Sl.v ⟨some (.new h2.blks.size 0), 3, .is 3⟩]]) (G48.has b4) (.cons ⟨_, rfl, q3⟩ .nil) rfl).mono fun _ _ => trivial
 have N : Nats h8 ⟨some (.new h6.blks.size 0), 1, .is 1⟩ [3] := Nats.of_has (xs := [3]) (g8.has b7) (by simp) (by simp)
 have Q : Sq EI h8 Fp.all ⟨some (.new h7.blks.size 0), 3, .is 3⟩ [5, 6, 7] := (klw (xs := [5, 6, 7]) b8 (by decide)).mono fun _ _ => trivial
 refine (k70 (T0.grow G08) (t := ⟨[0, 1, 2], [2], [[0, 1, 1]]⟩) (n := 3) ⟨q1, q2, q4⟩ N Q).call fun v h9 ⟨g9, y, j, e, lj, V⟩ => ?_
 subst e
 rw [k5s] at V ⊢
 refine Runs.step rfl (Runs.step (seen (asSl_v _)) (Runs.step (seen (kb _ _)) (Runs.ifT rfl ?_)))
 have hl : y.len = 1 := V.len
 rw [hl]
 refine Runs.ifT rfl ?_
 obtain ⟨r, e1, e2, e3⟩ := V.sq.two (i := 0) (by decide)
 rw [hl] at e1
 refine Runs.step e1 (Runs.step e2 (Runs.step e3 (Runs.ret ⟨rfl, G08.trans g9⟩)))
end
end Go.Ab

/- squeezed -/
set_option linter.unusedVariables false
set_option linter.unusedSimpArgs false
set_option maxRecDepth 10000
namespace Go.Ab
open Go.Proofs Go.Num
theorem k76 {g : Nat} (h : g < B ^ 64) : decide (cmpN (digs B g) [1] = 0) = decide (g = 1) := by
 rw [knu (kx h) (by decide), kg B2]
 have : num B [1] = 1 := by decide
 rw [this, decide_eq_decide]
 unfold cmp
 split
 ·omega
 ·split <;> omega
theorem k8y {cs ns bs : List Nat} (lc : ∀ x ∈ cs, x < B) (hn : rt ns = true) (ln : ∀ x ∈ ns, x < B) (hb : rt bs = true) (h : kbv cs ns bs = true) : rt cs = true ∧ cs ≠ [] ∧ num B cs < num B bs ∧ Nat.gcd (num B cs) (num B ns) = 1 := by
 obtain ⟨hc, hl⟩ := k6j h hb
 unfold kbv at h
 rw [hc, Bool.not_true, cond_false] at h
 by_cases h0 : (List.length cs : Int) = 0
 ·rw [decide_eq_true h0, cond_true] at h
  cases h
 ·rw [decide_eq_false h0, cond_false, knu hc hb] at h
  have hne : cs ≠ [] := fun e => h0 (by simp [e])
  have hg : Nat.gcd (num B cs) (num B ns) < B ^ 64 := by
   have h1 := khp lc hc
   have h2 : 0 < num B cs := kpd B1 (rt_iff.1 hc).2 hne
   exact Nat.lt_of_le_of_lt (Nat.gcd_le_left _ h2) h1
  have e1 : decide (cmpN ((gcdN cs ns).1) [1] = 0) = decide (Nat.gcd (num B cs) (num B ns) = 1) := by
   unfold gcdN
   rw [if_pos ⟨hc, hn⟩, k76 hg]
  rw [e1] at h
  have : cmp (num B cs) (num B bs) < 0 := cmp_lt.2 hl
  rw [decide_eq_false (show ¬ cmp (num B cs) (num B bs) ≥ 0 from by omega), cond_false] at h
  exact ⟨hc, hne, hl, by simpa using h⟩
theorem kxn {ns ds : List Nat} (ln : ∀ x ∈ ns, x < B) (ld : ∀ x ∈ ds, x < B) (v : kdi ns ds = true) : (invN ds (kbo ns)).2 = 0 := by
 unfold kdi at v
 cases m : kbu ns with
 | false => rw [m] at v; cases v
 | true =>
  rw [m, cond_true] at v
  obtain ⟨m1, m2, m3, m4⟩ := kr8 ln m
  obtain ⟨q1, q2, q3, q4⟩ := k5x ln m
  have rs : rt (kbo ns) = true := by rw [q1]; exact kx (Nat.lt_of_lt_of_le q2 (Nat.pow_le_pow_right (by decide) (by decide)))
  have ls : ∀ x ∈ kbo ns, x < B := by rw [q1]; exact kv B2 _
  obtain ⟨a1, a2, a3, a4⟩ := k8y ld m1 ln rs v
  obtain ⟨-, -, sp⟩ := kol ld ls
  have nq : num B (kbo ns) = num B ns * num B ns := by rw [q1, kg B2]
  have := sp.1 ⟨a1, rs, by rw [nq]; omega⟩
  have hg : Nat.gcd (num B (kbo ns)) (num B ds % num B (kbo ns)) = 1 := by
   rw [Nat.mod_eq_of_lt a3, nq]
   exact Nat.Coprime.mul_left (Nat.Coprime.symm a4) (Nat.Coprime.symm a4)
  obtain ⟨w, -, e, -⟩ := this.2 hg
  rw [e]
end Go.Ab

/- squeezed -/
set_option linter.unusedVariables false
set_option linter.unusedSimpArgs false
set_option maxRecDepth 10000
namespace Go.Ab
open Go.Proofs Go.Num
theorem Runs.yieldN {f : FuncId} {a c xs : List AV} {A : Nat × List AV → Option (AV × AH)} {B : Option (AV × AH)} {P : AV → AH → Prop} (H : Runs B P) : Runs (yieldK (.func (.func f) a c) xs A B) P := H
noncomputable def lessF (ns cs ds : List Nat) : List Nat × Int := if !kbu ns then ([], 1) else if !kdi ns cs then ([], 11) else if !kdi ns ds then ([], 11) else (ki0 cs (invN ds (kbo ns)).1 (kbo ns), 0)
section
variable {h0 : AH} {s1 s2 s3 : Sl} {ns cs ds : List Nat}
theorem kbb5 (N : Nats h0 s1 ns) : Runs (go (.fn F.kp0 [s1.v]) h0) fun v h' => ∃ (b : Nat) (t : Sl), v = .func (.func F.kgh) [] [.ptr (some (.new b 0))] ∧ h0.blks.size ≤ b ∧ h'.has b [t.v] T.kw ∧ Nats h' t (kbo ns) ∧ Grow h0 h' := by
 rw [ky8]
 obtain ⟨t, h1, e, N1, g1, o1⟩ := kju N N
 rw [e, Option.bind_some]
 refine Runs.step rfl (Runs.step (seen (asSl_v _)) (Runs.step (seen (kb _ _)) ?_))
 dsimp only
 refine Runs.new fun h2 b2 g2 => Runs.puts b2 rfl fun h3 b3 u3 => ?_
 have g3 : Grow h1 h3 := g2.updr (Nat.le_refl _) u3
 exact Runs.ret ⟨h1.blks.size, t, rfl, g1.size, b3, N1.grow g3, g1.trans g3⟩
theorem k8g {a b t : Sl} {xs ys zs : List Nat} (A : Nats h0 a xs) (B' : Nats h0 b ys) (Z : Nats h0 t zs) {k : Nat} {e : TypeId} (hk : h0.has k [t.v] e) : Runs (go (.fn F.kgh [a.v, b.v, .ptr (some (.new k 0))]) h0) fun v h' => ∃ s : Sl, v = s.v ∧ Nats h' s (ki0 xs ys zs) ∧ Grow h0 h' ∧ Own h0 s := by
 rw [kbad]
 obtain ⟨p, h1, e1, N1, g1, o1⟩ := kju A B'
 rw [e1, Option.bind_some]
 refine Runs.step rfl (Runs.step (seen (asSl_v _)) (Runs.step (seen (kb _ _)) ?_))
 dsimp only
 refine Runs.step ((g1.has hk).rd0 rfl (asSl_v _)) ?_
 obtain ⟨q, r, h2, e2, N2, N3, g2, o2, o3⟩ := ki5 N1 (Z.grow g1)
 rw [e2, Option.bind_some]
 refine Runs.step rfl (Runs.step (seen (asSl_v _)) (Runs.step (seen (asSl_v _)) (Runs.step (seen (kb _ _)) ?_)))
 exact Runs.ret ⟨r, rfl, N3, g1.trans g2, o3.of_le g1⟩
theorem k1a (N : Nats h0 s1 ns) (C : Nats h0 s2 cs) (D : Nats h0 s3 ds) : Runs (go (.fn F.ko1 [s1.v, s2.v, s3.v]) h0) fun v h' => ∃ s : Sl, v = .tup [s.v, .int .i64 (lessF ns cs ds).2] ∧ Nats h' s (lessF ns cs ds).1 ∧ Grow h0 h' := by
 rw [kzt]
 unfold lessF
 refine (ksg N).call fun v h1 ⟨e, g1⟩ => ?_
 subst e
 refine Runs.step (seen rfl) (Runs.cond (fun c => Runs.ret ⟨⟨none, 0, .is 0⟩, by rw [if_pos c], by rw [if_pos c]; exact Nats.nil _, g1⟩) fun c => ?_)
 rw [if_neg (by rw [c]; simp)]
 refine (kt7 (N.grow g1) (C.grow g1)).call fun v h2 ⟨e, g2⟩ => ?_
 subst e
 have G2 := g1.trans g2
 refine Runs.step (seen rfl) (Runs.cond (fun c => Runs.ret ⟨⟨none, 0, .is 0⟩, by rw [if_pos c], by rw [if_pos c]; exact Nats.nil _, G2⟩) fun c => ?_)
 rw [if_neg (by rw [c]; simp)]
 refine (kt7 (N.grow G2) (D.grow G2)).call fun v h3 ⟨e, g3⟩ => ?_
 subst e
 have G3 := G2.trans g3
 refine Runs.step (seen rfl) (Runs.cond (fun c => Runs.ret ⟨⟨none, 0, .is 0⟩, by rw [if_pos c], by rw [if_pos c]; exact Nats.nil _, G3⟩) fun c => ?_)
 rw [if_neg (by rw [c]; simp)]
 rw [Bool.not_eq_false'] at c
 obtain ⟨t, h4, e4, N4, g4, o4⟩ := kju (N.grow G3) (N.grow G3)
 have N4 : Nats h4 t (kbo ns) := N4
 have G4 := G3.trans g4
 dsimp only
 rw [e4, Option.bind_some]
 refine Runs.step rfl (Runs.step (seen (asSl_v _)) (Runs.step (seen (kb _ _)) ?_))
 dsimp only
 refine (kxs (D.grow G4) N4).call fun v h5 p5 => ?_
 obtain ⟨x, e5, N5, g5, o5⟩ := p5
 subst e5
 have G5 := G4.trans g5
 refine Runs.step rfl (Runs.step (seen (asSl_v _)) (Runs.step (seen (kb _ _)) ?_))
 dsimp only
 refine (kbb5 (N.grow G5)).call fun v h6 ⟨b, y, e6, hb, b6, N6, g6⟩ => ?_
 subst e6
 have G6 := G5.trans g6
 refine Runs.yieldN ?_
 show Runs ((callF Pg go F.kgh [s2.v, x.v, .ptr (some (.new b 0))] h6).bind _) _
 rw [kbbn]
 refine (k8g (C.grow G6) (N5.grow g6) N6 b6).call fun v h7 ⟨z, e7, N7, g7, o7⟩ => ?_
 subst e7
 refine Runs.step (seen (asSl_v _)) (Runs.ret ⟨z, ?_, N7, G6.trans g7⟩)
 rw [kxn N.lt D.lt c]
theorem k48 (N : Nats h0 s1 ns) (C : Nats h0 s2 cs) (D : Nats h0 s3 ds) : Runs (go (.fn F.kov [s1.v, s2.v, s3.v]) h0) fun v h' => ∃ s : Sl, v = .tup [s.v, .int .i64 (lessF ns cs ds).2] ∧ Nats h' s (lessF ns cs ds).1 ∧ Grow h0 h' := by
 rw [k3h]
 unfold lessF
 refine (krs N).call fun v h1 ⟨e, g1⟩ => ?_
 subst e
 refine Runs.step (seen rfl) (Runs.cond (fun c => Runs.ret ⟨⟨none, 0, .is 0⟩, by rw [if_pos c], by rw [if_pos c]; exact Nats.nil _, g1⟩) fun c => ?_)
 rw [if_neg (by rw [c]; simp)]
 refine (kv5 (N.grow g1) (C.grow g1)).call fun v h2 ⟨e, g2⟩ => ?_
 subst e
 have G2 := g1.trans g2
 refine Runs.step (seen rfl) ?_
 refine (kv5 (N.grow G2) (D.grow G2)).call fun v h3 ⟨e, g3⟩ => ?_
 subst e
 have G3 := G2.trans g3
 refine Runs.step (seen rfl) (Runs.cond (fun c => Runs.ret ⟨⟨none, 0, .is 0⟩, by rw [if_pos c], by rw [if_pos c]; exact Nats.nil _, G3⟩) fun c => ?_)
 rw [if_neg (by rw [c]; simp)]
 refine Runs.cond (fun c => Runs.ret ⟨⟨none, 0, .is 0⟩, by rw [if_pos c], by rw [if_pos c]; exact Nats.nil _, G3⟩) fun c => ?_
 rw [if_neg (by rw [c]; simp)]
 refine (kw6 (N.grow G3)).call fun v h4 ⟨t, e4, N4, g4, o4⟩ => ?_
 subst e4
 have G4 := G3.trans g4
 refine Runs.step (seen (asSl_v _)) ?_
 refine (ky4 (D.grow G4) N4).call fun v h5 p5 => ?_
 obtain ⟨x, e5, N5, g5, o5⟩ := p5
 subst e5
 have G5 := G4.trans g5
 refine Runs.step rfl (Runs.step (seen (asSl_v _)) (Runs.step (seen (kb _ _)) ?_))
 dsimp only
 refine (k9p (C.grow G5) N5 (N4.grow g5)).call fun v h6 ⟨z, e6, N6, g6, o6⟩ => ?_
 subst e6
 exact Runs.step (seen (asSl_v _)) (Runs.ret ⟨z, rfl, N6, G5.trans g6⟩)
end
theorem HistLessCard_law (h : AH) (T0 : Tab h) {x1 x2 x3 : AV} (z1 : ArgV Pg h T.kw x1) (z2 : ArgV Pg h T.kw x2) (z3 : ArgV Pg h T.kw x3) : ∃ h', go (.fn F.kpv [x1, x2, x3]) h = some (.bool true, h') := by
 have nat : ∀ {x : AV}, ArgV Pg h T.kw x → ∃ (s : Sl) (xs : List Nat), x = s.v ∧ Nats h s xs := by
  intro x z
  unfold ArgV at z
  rw [kwk] at z
  obtain ⟨s, xs, e, n⟩ := kx0 z
  cases e
  exact ⟨s, xs, rfl, n⟩
 obtain ⟨s1, ns, rfl, N⟩ := nat z1
 obtain ⟨s2, cs, rfl, C⟩ := nat z2
 obtain ⟨s3, ds, rfl, D⟩ := nat z3
 suffices H : Runs (go (.fn F.kpv [s1.v, s2.v, s3.v]) h) fun v _ => v = .bool true by
  obtain ⟨_, h', e, rfl⟩ := H
  exact ⟨h', e⟩
 rw [k9k]
 refine (k26 T0).call fun _ h1 ⟨e, g1⟩ => ?_
 subst e
 refine Runs.step (seen rfl) (Runs.cond (fun _ => Runs.ret rfl) fun _ => Runs.cond (fun _ => Runs.ret rfl) fun _ => Runs.cond (fun _ => Runs.ret rfl) fun _ => ?_)
 refine (k1a (N.grow g1) (C.grow g1) (D.grow g1)).call fun _ h2 ⟨x, e, X, g2⟩ => ?_
 subst e
 have G2 := g1.trans g2
 refine Runs.step rfl (Runs.step (seen (asSl_v _)) (Runs.step (seen (kb _ _)) ?_))
 refine (k48 (N.grow G2) (C.grow G2) (D.grow G2)).call fun _ h3 ⟨y, e, Y, g3⟩ => ?_
 subst e
 refine Runs.step rfl (Runs.step (seen (asSl_v _)) (Runs.step (seen (kb _ _)) ?_))
 dsimp only
 refine Runs.step (k9e (X.grow g3) Y) (Runs.step (seen rfl) (Runs.ifT rfl (Runs.ifT rfl (Runs.ret ?_))))
 rw [decide_eq_true rfl]
end Go.Ab
