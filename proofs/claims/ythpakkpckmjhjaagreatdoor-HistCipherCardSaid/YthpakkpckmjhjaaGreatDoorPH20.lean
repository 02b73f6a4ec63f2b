/- squeezed -/
import Derived.Test.YthpakkpckmjhjaaGreatDoorPE1

set_option linter.unusedVariables false
set_option linter.unusedSimpArgs false
set_option maxRecDepth 10000
namespace Go.Ab
open Go.Proofs Go.Num
noncomputable def oddC (ns : List Nat) (C : List (List Nat)) : Bool := C.any fun c => !ken ns c
noncomputable def sumsC (qs : List Nat) (C : List (List Nat)) (R : Nat × Nat → List Nat) (l : List (Nat × Nat)) : List (List Nat) := l.map fun p => prodC qs C (R p) [1]
noncomputable def kbb (ns : List Nat) (t : Tb) (n : Int) (w : List Nat) (C : List (List Nat)) : List (List Nat) × Int := if !kbw ns then ([], 1) else if faultH t n w (C.length : Int) = 0 then if oddC ns C then ([], 11) else (sumsC (kb1 ns) C (rowsL t n w) (cutsL t), 0) else ([], faultH t n w (C.length : Int))
theorem own_av {h : AH} {p : Sl} {xs : List Nat} (o : Own h p) {m : Nat} (k : ¬ Av p m xs) : h.blks.size ≤ m := by
 rcases Nat.lt_or_ge m h.blks.size with hm | hm
 ·exact absurd (Av.of_own o hm) k
 ·exact hm
section
variable {h0 : AH} {S : Fp} {s1 s2 s3 s u z : Sl} {t : Tb} {n : Int} {w ns : List Nat} {C : List (List Nat)}
theorem k0x {k : Nat} {e : TypeId} (N : Nats h0 z ns) (hk : h0.has k [z.v] e) (q : Sq Ef.nats h0 S u C) : Runs (go (.fn F.kix [u.v, .func (.func F.kbm) [] [.ptr (some (.new k 0))]]) h0) fun v h' => v = .bool (oddC ns C) ∧ Grow h0 h' := by
 rw [k48]
 refine Runs.contains (xs := C) ?_
 rw [k9y, q.len]
 refine kh8 (n := C.length) (G := fun z h => go (.pt F.kcv Td.kev [(0, u.v), (1, .func (.func F.kbm) [] [.ptr (some (.new k 0))]), (7, .int .i64 (C.length : Int)), (8, .int .i64 z)]) h) (fun i h P hi gg hT hF => ?_) (fun h gg => ?_) C.length 0 (by omega) (Grow.refl h0) (fun j hj => by omega)
 ·obtain ⟨r, s', e1, e2, n', -⟩ := (q.grow gg).nats hi
  rw [List.getElem?_eq_getElem hi] at hT hF
  simp only [Option.any_some] at hT hF
  show Runs (go _ _) _
  rw [krj]
  refine Runs.ifT (decide_eq_true (by omega)) (Runs.step e1 (Runs.step e2 ?_))
  have key : Runs (go (.fn F.kbm [s'.v, .ptr (some (.new k 0))]) h) fun v h' => v = .bool (!ken ns C[i]) ∧ Grow h h' := by
   rw [kyz, Option.bind_some]
   refine Runs.step ((gg.has hk).rd0 rfl (asSl_v _)) ?_
   refine (k21 (N.grow gg) n').call fun v h1 ⟨e, g1⟩ => ?_
   subst e
   exact Runs.step (seen rfl) (Runs.ret ⟨rfl, g1⟩)
  refine key.call fun v h1 ⟨e, g1⟩ => ?_
  subst e
  refine Runs.step (seen rfl) ?_
  rw [kf (by have := q.short; omega)]
  exact Runs.cond (fun c => Runs.ret (hT h1 (gg.trans g1) c)) fun c => hF _ (gg.trans g1) c
 ·rw [krj, condF (decide_eq_false (by omega))]
noncomputable def hNote (s1 s2 s3 : Sl) (n : Int) (s u z : Sl) (m : Int) (b0 b1 b2 b3 bf bo : Nat) (fv g : AV) (st : LoopState) : ABlk := kdg Fx.kom F.kcg 0 st none [(0, z.v), (1, .agg [s1.v, s2.v, s3.v]), (2, .agg [.int .i64 n, s.v]), (3, u.v), (4, .ptr (some (.new b0 0))), (5, .ptr (some (.new b1 0))), (6, .ptr (some (.new b2 0))), (7, .ptr (some (.new b3 0))), (8, (⟨none, 0, .is 0⟩ : Sl).v), (9, .int .i64 0), (10, .int .i64 0), (11, .ptr (some (.new bf 0))), (12, .ptr (some (.new bo 0))), (18, z.v), (19, .bool true), (20, .bool false), (21, .agg [s1.v, s2.v, s3.v]), (22, .agg [.int .i64 n, s.v]), (23, u.v), (24, .int .i64 m), (25, .int .i64 0), (26, .int .i64 0), (27, .bool false), (29, u.v), (30, .func (.func F.kbm) [] [.ptr (some (.new b0 0))]), (31, .bool false), (32, z.v), (33, fv), (34, .agg [s1.v, s2.v, s3.v]), (35, .agg [.int .i64 n, s.v]), (36, g)]
theorem k5o {note : LoopState → ABlk} {hs hr : AH} {b3 bf bo l kq : Nat} {x4 y tq to : Sl} {j jo : Option Nat} {e3 e4 e5 : TypeId} {R qs : List Nat} {Su So : Fp} {xs : List (List Nat)} (hbl : bo ≠ l) (hbs : bo < hs.blks.size) (hls : l < hs.blks.size) (hrs : hs.blks.size ≤ hr.blks.size) (ljo : LeO hs.blks.size jo) (hlt : ∀ x ∈ R, x < C.length) (hR : R.length ≤ 300) (hxs : xs.length < 1000)
  (hend : ∀ h', h'.blks[l]? = some (note .busy) → kb4 l none h' = some (.bool true, h'.setBlk l (note .ready))) (V : GF EI T.int hr Fp.no y j (zs R)) (B3 : hr.has b3 [u.v] e3) (Q : Sq Ef.nats hr Su u C) (Bf : hr.has bf [.func (.func F.kdm) [] [.ptr (some (.new kq 0))]] e4) (Bq : hr.has kq [tq.v] e5) (Nq : Nats hr tq qs) (hn : hr.blks[l]? = some (note .busy)) (Bo : hr.has bo [to.v] T.kci) (hSo : ∀ m, So m → hs.blks.size ≤ m) (Vo : GF Ef.nats T.kp hr So to jo xs) : ∀ (k i : Nat), i + k = R.length → ∀ (h : AH) (p : Sl), Grow hr h → Own hr p → Nats h p (prodC qs C (R.take i) [1]) →
  Runs (go (.rpt l F.kcg Td.km3 [(7, .ptr (some (.new b3 0))), (8, x4.v), (9, .int .i64 0), (11, .ptr (some (.new bf 0))), (12, .ptr (some (.new bo 0))), (15, p.v), (40, y.v), (41, .int .i64 (R.length : Int)), (42, .int .i64 (i : Int))]) h) fun v h' => v = .bool true ∧ Md (fun m => m = bo ∨ m = l ∨ jo = some m) hr h' ∧ h'.blks[l]? = some (note .ready) ∧ ∃ (S : Fp) (t : Sl) (j : Option Nat), (∀ m, S m → hs.blks.size ≤ m) ∧ h'.has bo [t.v] T.kci ∧ LeO hs.blks.size j ∧ GF Ef.nats T.kp h' S t j (xs ++ [prodC qs C R [1]]) := by
 intro k
 induction k with
 | zero =>
  intro i hi h p G O N
  obtain rfl : i = R.length := by omega
  rw [List.take_length] at N
  rw [ktg]
  refine Runs.ifF (decide_eq_false (by omega)) (Runs.step ((G.has Bo).rd0 rfl (asSl_v _)) ?_)
  refine Runs.new fun h1 b1 g1 => ?_
  have G1 := G.trans g1
  have n1 := (G1.blk l (Array.getElem?_eq_some_iff.1 hn).1).trans hn
  have lt := Vo.lt
  have := k1v (note := note) (hs := hs) (E := Ef.nats) (Tx := fun m => ¬ Av p m (prodC qs C R [1])) (x := prodC qs C R [1]) hSo (fun m hm => Nat.le_trans hrs (own_av O hm)) (by
   cases jo with
   | none => exact trivial
   | some a =>
    intro hm
    have := own_av O hm
    have : a < hr.blks.size := lt
    omega) (G1.has Bo) n1 hbl hbs hls (Nat.le_trans hrs G1.size) ljo (Vo.grow G1) (show Ef.nats.has h1 _ [p.v] _ from ⟨p, rfl, N.grow g1, fun j hj => hj⟩) (ksa (by omega)) b1 (by rw [kkg]; rfl) hend
  exact this.imp fun v h' ⟨e, m5, n5, o5⟩ => ⟨e, G1.thenM m5, n5, o5⟩
 | succ k ih =>
  intro i hi h p G O N
  have hi' : i < R.length := by omega
  have hz : i < (zs R).length := by rw [zs_len]; exact hi'
  obtain ⟨r, e1, e2⟩ := (V.grow G).sq.int hz
  have hx' : (zs R)[i] = ((R[i] : Nat) : Int) := by simp [zs]
  have hg := hlt _ (List.getElem_mem hi')
  obtain ⟨r2, s', e4, e5, N', -⟩ := (Q.grow G).nats hg
  rw [ktg]
  refine Runs.ifT (decide_eq_true (by omega)) (Runs.step e1 (Runs.step e2 (Runs.step (show h.cell (.new bf 0) = some _ from (G.has Bf).cell 0) (Runs.step ((G.has B3).rd0 rfl (asSl_v _)) ?_))))
  rw [hx']
  refine Runs.step e4 (Runs.step e5 ?_)
  show Runs ((callF Pg go F.kdm [p.v, s'.v, .ptr (some (.new kq 0))] h).bind _) _
  rw [k94]
  refine (k6y N N' (Nq.grow G) (G.has Bq)).call fun v h1 ⟨p', e, N1, g1, O1⟩ => ?_
  subst e
  refine Runs.step (seen (asSl_v _)) ?_
  rw [kf (by omega)]
  refine ih (i + 1) (by omega) h1 p' (G.trans g1) (O1.of_le G) ?_
  rw [List.take_succ_eq_append_getElem hi']
  unfold prodC at N1 ⊢
  rw [List.foldl_append]
  have : C.getD R[i] [] = C[R[i]] := by simp [List.getD, hg]
  rw [List.foldl_cons, List.foldl_nil, this]
  exact N1
theorem k7i {hs h : AH} {b0 b1 b2 b3 bf bo l kq N0 : Nat} {tq : Sl} {gv fv : AV} {m : Int} {d : List (Nat × Nat)} {f c : Nat} {y : Sl} {j : Option Nat} {qs : List Nat} {e4 e5 : TypeId} (hbl : bo ≠ l) (hbs : bo < hs.blks.size) (hls : l < hs.blks.size) (h3 : b3 < N0) (hf : bf < N0) (hq : kq < N0) (hd : d.length < 1000) (hb : C.length = t.ids.length) (hids : t.ids.length ≤ 256) (hN0 : N0 ≤ bo) (hNl : N0 ≤ l) (B3 : hs.has b3 [u.v] T.kci) (Q : Sq Ef.nats hs (Fp.below N0) u C) (hfv : fv = .func (.func F.kdm) [] [.ptr (some (.new kq 0))]) (Bf : hs.has bf [fv] e4) (Bq : hs.has kq [tq.v] e5) (Nq : Nats hs tq qs) (Aq : ∀ j, ¬ Av tq j qs → j < N0)
  (I : LpS Ef.nats T.kp T.kci (hNote s1 s2 s3 n s u z m b0 b1 b2 b3 bf bo fv gv) hs bo l (sumsC qs C (rowsL t n w) d) h) (V : GF EI T.int h Fp.no y j (zs (rowsL t n w (f, c)))) : Runs (go (.round l [.agg [.int .i64 (f : Int), .int .i64 (c : Int)], y.v]) h) fun v h' => v = .bool true ∧ LpS Ef.nats T.kp T.kci (hNote s1 s2 s3 n s u z m b0 b1 b2 b3 bf bo fv gv) hs bo l (sumsC qs C (rowsL t n w) (d ++ [(f, c)])) h' := by
 obtain ⟨M, hn, So, to, jo, hSo, Bo, ljo, Vo⟩ := I
 have hll : l < h.blks.size := (Array.getElem?_eq_some_iff.1 hn).1
 have hsz := M.size
 have dis : Dis (Fp.below N0) (fun m => m = bo ∨ m = l) := fun k a b => by
  have a : k < N0 := a
  rcases b with rfl | rfl <;> omega
 have no : ∀ k, k < N0 → ¬ (k = bo ∨ k = l) := fun k a b => by rcases b with rfl | rfl <;> omega
 have B3h := M.has B3 (no _ h3)
 have Bfh := M.has Bf (no _ hf)
 have Bqh := M.has Bq (no _ hq)
 have Qh := Q.md M dis
 have Nqh : Nats h tq qs := Nq.mdE (S := Fp.below N0) Aq M dis
 rw [k7w l none _ _ _ _ _ _ _ _ _ _ _ _ _ _ _ _ _ _ _ _ _ _ _ _ _ _ _ _ _ _ _ _ _ _ _ _ _ _ _ _ _ _ _ hn, kp4 (h := h) hn, Option.bind_some]
 generalize hq' : h.setBlk l _ = h1
 have u1 : Upd h h1 l := by rw [← hq']; exact AH.setBlk_Upd _
 have n1 : h1.blks[l]? = some (hNote s1 s2 s3 n s u z m b0 b1 b2 b3 bf bo fv gv .busy) := by rw [← hq']; exact AH.setBlk_get hll
 have hu1 := u1.size
 by_cases hyl : j = some l
 ·subst hyl
  exfalso
  obtain ⟨_, _, _, _, rows, e, b, _⟩ := V
  rw [AH.has, hn] at b
  unfold hNote kdg at b
  cases b
 refine Runs.new fun h2 b2' g2 => ?_
 have V1 : GF EI T.int h1 Fp.no y j (zs (rowsL t n w (f, c))) := V.upd u1 Fp.not_no fun k e e2 => hyl (by rw [e, e2])
 have Q1 : Sq Ef.nats h1 (Fp.below N0) u C := Qh.upd (by intro k; have k : l < N0 := k; omega) u1
 have Nq1 : Nats h1 tq qs := Nqh.upda (Classical.byContradiction fun k => by have := Aq _ k; omega) u1
 have B31 := B3h.updr (show b3 ≠ l by omega) u1
 have Bf1 := Bfh.updr (show bf ≠ l by omega) u1
 have Bq1 := Bqh.updr (show kq ≠ l by omega) u1
 have Bo1 := Bo.updr hbl u1
 have Vo1 : GF Ef.nats T.kp h1 So to jo (sumsC qs C (rowsL t n w) d) := Vo.upd u1 (fun x => by have := hSo _ x; omega) (kc3 hls ljo)
 rw [V.len, zs_len]
 rw [hfv] at Bf1
 have O : Own h1 ⟨some (.new h1.blks.size 0), 1, .is 1⟩ := Own.box (Grow.refl _)
 have N2 : Nats h2 ⟨some (.new h1.blks.size 0), 1, .is 1⟩ (prodC qs C ((rowsL t n w (f, c)).take 0) [1]) := Nats.of_has (xs := [1]) b2' (by simp) (by simp)
 have := k5o (note := hNote s1 s2 s3 n s u z m b0 b1 b2 b3 bf bo fv gv) (hs := hs) (x4 := ⟨none, 0, .is 0⟩) (R := rowsL t n w (f, c)) (xs := sumsC qs C (rowsL t n w) d) hbl hbs hls (by omega) ljo (fun x hx => by rw [hb]; exact ks7 x hx) (by have := ku6 (t := t) (n := n) (w := w) (p := (f, c)); omega) (by unfold sumsC; rw [List.length_map]; exact hd) (fun h' hn' => by rw [knu hn']; rfl) V1 B31 Q1 Bf1 Bq1 Nq1 n1 Bo1 hSo Vo1 (rowsL t n w (f, c)).length 0 (by omega) h2 _ g2 O N2
 refine this.imp fun v h' ⟨e, m5, n5, o5⟩ => ⟨e, ?_⟩
 have hsum : sumsC qs C (rowsL t n w) (d ++ [(f, c)]) = sumsC qs C (rowsL t n w) d ++ [prodC qs C (rowsL t n w (f, c)) [1]] := by
  unfold sumsC
  rw [List.map_append]
  rfl
 rw [hsum]
 exact LpS.next (h := h) (xs := sumsC qs C (rowsL t n w) d) (M.trans (u1.md (.inr rfl))) ljo m5 n5 o5
theorem kxb (T0 : Tab h0) (M : Nats h0 z ns) (q : TabAt h0 S s1 s2 s3 t) (N : Nats h0 s w) (Q : Sq Ef.nats h0 S u C) : Runs (go (.fn F.kcg [z.v, .agg [s1.v, s2.v, s3.v], .agg [.int .i64 n, s.v], u.v]) h0) fun v h' => Grow h0 h' ∧ ∃ (S : Fp) (y : Sl) (j : Option Nat), v = .tup [y.v, .int .i64 (kbb ns t n w C).2] ∧ (∀ m, S m → h0.blks.size ≤ m) ∧ LeO h0.blks.size j ∧ GF Ef.nats T.kp h' S y j (kbb ns t n w C).1 := by
 rw [k35]
 refine Runs.new fun ha ba ga => Runs.new fun h1 b1 g1 => Runs.new fun h2 b2 g2 => Runs.new fun h3 b3 g3 => ?_
 have g13 := (g1.trans g2).trans g3
 have Ba := g13.has ba
 have B1 := g3.has (g2.has b1)
 have B2 := g3.has b2
 have za := ba.lt
 have z1 := b1.lt
 have z2 := b2.lt
 have z3 := b3.lt
 have G3 : Grow h0 h3 := ga.trans g13
 refine Runs.step (Ba.rd0 rfl (asSl_v _)) ?_
 have nope : ∀ {h : AH} (c : Int), Grow h0 h → kbb ns t n w C = ([], c) → Runs (some (AV.tup [(⟨none, 0, .is 0⟩ : Sl).v, .int .i64 c], h)) fun v h' => Grow h0 h' ∧ ∃ (S : Fp) (y : Sl) (j : Option Nat), v = .tup [y.v, .int .i64 (kbb ns t n w C).2] ∧ (∀ m, S m → h0.blks.size ≤ m) ∧ LeO h0.blks.size j ∧ GF Ef.nats T.kp h' S y j (kbb ns t n w C).1 := fun c g e => by
  rw [e]
  exact Runs.ret ⟨g, Fp.no, ⟨none, 0, .is 0⟩, none, rfl, fun m x => x.elim, trivial, GF.none _ _ _ _⟩
 refine (kv0 (M.grow G3)).call fun v h4 ⟨e, g4⟩ => ?_
 subst e
 have G4 := G3.trans g4
 refine Runs.step (seen rfl) (Runs.cond (fun c => nope 1 G4 (by unfold kbb; rw [if_pos c])) fun cM => ?_)
 have B1 := g4.has B1
 have B2 := g4.has B2
 have B3 := g4.has b3
 refine Runs.step (B1.rd 0 rfl (asSl_v _)) (Runs.step (B1.rd 1 rfl (asSl_v _)) (Runs.step (B1.rd 2 rfl (asSl_v _)) (Runs.step (B2.rd 0 rfl (kc _ _)) (Runs.step (B2.rd 1 rfl (asSl_v _)) (Runs.step (B3.rd0 rfl (asSl_v _)) ?_)))))
 rw [Q.len]
 refine (kvb (q.grow G4) (N.grow G4)).call fun v h5 ⟨e, g5⟩ => ?_
 subst e
 have G5 := G4.trans g5
 have B3 := g5.has B3
 refine Runs.step (seen rfl) (Runs.cond (fun c => ?_) fun c => ?_)
 ·rw [Bool.not_eq_true', decide_eq_false_iff_not] at c
  exact nope _ G5 (by unfold kbb; rw [if_neg (by rw [cM]; simp), if_neg c])
 rw [Bool.not_eq_false', decide_eq_true_eq] at c
 obtain ⟨hR, hR2, hn, hm⟩ := kor c
 rw [c]
 refine Runs.step (B3.rd0 rfl (asSl_v _)) ?_
 have Ba5 := (g4.trans g5).has Ba
 refine (k0x (M.grow G5) Ba5 (Q.grow G5)).call fun v h6 ⟨e, g6⟩ => ?_
 subst e
 have G6 := G5.trans g6
 refine Runs.step (seen rfl) (Runs.cond (fun c2 => nope 11 G6 (by unfold kbb; rw [if_neg (by rw [cM]; simp), if_pos c, if_pos c2])) fun c2 => ?_)
 have hpl : kbb ns t n w C = (sumsC (kb1 ns) C (rowsL t n w) (cutsL t), 0) := by
  unfold kbb
  rw [if_neg (by rw [cM]; simp), if_pos c, if_neg (by rw [c2]; simp)]
 rw [hpl]
 dsimp only
 rw [Bool.not_eq_false'] at cM
 rw [cM]
 refine Runs.step ((g6.has Ba5).rd0 rfl (asSl_v _)) ?_
 refine (kzs (M.grow G6)).call fun v h7 ⟨kq, tq, e, hkq, Bq, Nq, g7⟩ => ?_
 subst e
 have G7 := G6.trans g7
 have g37 := ((g4.trans g5).trans g6).trans g7
 refine Runs.new fun h8 b8 g8 => Runs.ifT rfl ?_
 dsimp only
 refine Runs.puts b8 rfl fun h9 b9 u9 => ?_
 have g79 : Grow h7 h9 := g8.updr (Nat.le_refl _) u9
 refine Runs.new fun h10 b10 g10 => ?_
 have g310 := (g37.trans g79).trans g10
 have B1' := g310.has (g3.has (g2.has b1))
 have B2' := g310.has (g3.has b2)
 have z7 := g37.size
 have zq := Bq.lt
 have z8 := b8.lt
 have z9 := b9.lt
 have z10 := b10.lt
 have y9 := g79.size
 refine Runs.step (B1'.rd 0 rfl (asSl_v _)) (Runs.step (B1'.rd 1 rfl (asSl_v _)) (Runs.step (B1'.rd 2 rfl (asSl_v _)) (Runs.step (B2'.rd 0 rfl (kc _ _)) (Runs.step (B2'.rd 1 rfl (asSl_v _)) ?_))))
 have k0 : Runs (go (.fn F.kjj [.agg [s1.v, s2.v, s3.v], .agg [.int .i64 n, s.v]]) h10) fun v h' => ∃ c1 c2 : Nat, v = .func (.func F.kbh) [] [.ptr (some (.new c1 0)), .ptr (some (.new c2 0))] ∧ h10.blks.size ≤ c1 ∧ h10.blks.size ≤ c2 ∧ h'.has c1 [s1.v, s2.v, s3.v] T.ku ∧ h'.has c2 [.int .i64 n, s.v] T.kn ∧ Grow h10 h' := by
  rw [krx]
  exact Runs.new fun h4 b4 g4 => Runs.new fun h5 b5 g5 => Runs.ret ⟨_, _, rfl, Nat.le_refl _, g4.size, g5.has b4, b5, g4.trans g5⟩
 refine k0.call fun v h11 ⟨c1, c2', e, l1, l2, d1, d2, g11⟩ => ?_
 subst e
 dsimp only
 rw [kba2, kn4]
 refine Runs.newM fun h12 hb g12 => ?_
 rw [kqp]
 generalize hgv : (AV.func (.func F.kbh) [] [AV.ptr (some (Ref.new c1 0)), AV.ptr (some (Ref.new c2' 0))]) = gv at hb
 generalize hfv : (AV.func (.func F.kdm) [] [AV.ptr (some (Ref.new kq 0))]) = fv at hb b9
 have g312 := (g310.trans g11).trans g12
 have g712 := ((g79.trans g10).trans g11).trans g12
 have G12 : Grow h0 h12 := G3.trans g312
 have y10 := g10.size
 have z11 := d1.lt
 have z12 := d2.lt
 have z13 : h11.blks.size < h12.blks.size := (Array.getElem?_eq_some_iff.1 hb).1
 have zz0 := G3.size
 have E12 : EachOk (Fp.below h0.blks.size) s1 s2 s3 s t n w c1 c2' h12 := ⟨T0.grow G12, q.bound.grow G12, N.grow G12, g12.has d1, g12.has d2⟩
 have I0 : LpS Ef.nats T.kp T.kci (hNote s1 s2 s3 n s u z (C.length : Int) h0.blks.size ha.blks.size h1.blks.size h2.blks.size h7.blks.size h9.blks.size fv gv) h12 h9.blks.size h11.blks.size (sumsC (kb1 ns) C (rowsL t n w) []) h12 := ⟨Md.refl _ _, hb, Fp.no, _, none, fun m x => x.elim, g12.has (g11.has b10), trivial, GF.none _ _ _ _⟩
 have k1 := ku7 (l := h11.blks.size) (Inv := fun d h => LpS Ef.nats T.kp T.kci (hNote s1 s2 s3 n s u z (C.length : Int) h0.blks.size ha.blks.size h1.blks.size h2.blks.size h7.blks.size h9.blks.size fv gv) h12 h9.blks.size h11.blks.size (sumsC (kb1 ns) C (rowsL t n w) d) h) (fun d h I => E12.md I.md (fun j a b => by have a : j < h0.blks.size := a; rcases b with rfl | rfl <;> omega) (fun j hj => Classical.byContradiction fun k => hj (Av.of_base N (Nat.le_of_not_lt k))) (by omega) (by omega)) (fun d h h' I g => I.grow g) hR (fun d f c h y j hf hc hd I V => k7i (N0 := h9.blks.size) (by omega) (by omega) (by omega) (by omega) (by omega) (by omega) hd (by omega) (kd4 hR).1 (by omega) (by omega) (g312.has b3) ((Q.bound.mono fun _ x => (show _ < h9.blks.size by have := x.2; omega)).grow G12) hfv.symm ((g10.trans (g11.trans g12)).has b9) (g712.has Bq) (Nq.grow g712) (fun j hj => Classical.byContradiction fun k => hj (Av.of_base Nq (by omega))) I V) I0
 show Runs ((go (.fn F.kbh [.func (.yield h11.blks.size) [] [], .ptr (some (.new c1 0)), .ptr (some (.new c2' 0))]) h12).bind _) _
 refine k1.call fun v h13 ⟨e, I⟩ => ?_
 obtain ⟨Mm, hn9, So, t', j, hSo, B, lj, V⟩ := I
 dsimp only
 rw [knc hn9, Option.bind_some, k19]
 have u7 : Upd h13 (h13.setBlk h11.blks.size .dead) h11.blks.size := AH.setBlk_Upd _
 have zz := Mm.size
 have G13 : Grow h0 h13 := (G12.thenM Mm).grow fun j hj => by intro k; rcases k with rfl | rfl <;> omega
 refine Runs.step ((B.updr (by omega) u7).rd0 rfl (asSl_v _)) (Runs.ret ⟨G13.updr (by omega) u7, So, t', j, rfl, fun m hm => by have := hSo m hm; omega, LeO.trans (by omega) lj, ?_⟩)
 exact V.upd u7 (fun x => by have := hSo _ x; omega) (kc3 (by omega) lj)
end
end Go.Ab

/- squeezed -/
set_option linter.unusedVariables false
set_option linter.unusedSimpArgs false
set_option maxRecDepth 10000
namespace Go.Ab
open Go.Proofs Go.Num
section
variable {h0 hr : AH} {S Su : Fp} {s1 s2 s3 s u z tq : Sl} {t : Tb} {n : Int} {w ns qs : List Nat} {C : List (List Nat)}
theorem k9n (q : TabAt h0 S s1 s2 s3 t) (Q : Sq Ef.nats h0 Su u C) (Nq : Nats h0 tq qs) {b : Nat} (B : h0.has b [s1.v, s2.v, s3.v] T.ku) {L : List Nat} {D : List (Nat × Nat)} {x y o : Sl} {S1 S2 So : Fp} (X : Sq EI h0 S1 x (zs L)) (Y : Sq EP h0 S2 y (zc D)) {i : Nat} (hi : i < D.length) (hD : D.length ≤ 1000) (hLl : L.length ≤ 1000) (hf : D[i].1 < t.cols.length) (hL : ∀ z ∈ L, z < C.length ∧ z < t.cols[D[i].1].length) {jo : Option Nat} {xs : List (List Nat)} (ljo : LeO h0.blks.size jo) (hxs : xs.length ≤ 1000) (Gr : Grow h0 hr) (hSo : ∀ m, So m → h0.blks.size ≤ m) (V : GF Ef.nats T.kp hr So o jo xs) {P : AV → AH → Prop}
  (hP : ∀ (h : AH) (S : Fp) (o : Sl) (j : Option Nat), Grow h0 h → LeO h0.blks.size j → (∀ m, S m → h0.blks.size ≤ m) → GF Ef.nats T.kp h S o j (xs ++ [prodC qs C (L.filter (leftP t D[i].1 (D[i].2 : Int))) [1]]) → Runs (go (.pt F.kbu Td.kid [(3, u.v), (5, .ptr (some (.new b 0))), (14, x.v), (15, y.v), (16, tq.v), (17, o.v), (18, .int .i64 ((i + 1 : Nat) : Int))]) h) P) :
  ∀ (k c : Nat), c + k = L.length → ∀ (h : AH) (p : Sl), Grow hr h → Own hr p → Nats h p (prodC qs C ((L.take c).filter (leftP t D[i].1 (D[i].2 : Int))) [1]) →
  Runs (go (.pt F.kbu Td.ki6 [(3, u.v), (5, .ptr (some (.new b 0))), (14, x.v), (15, y.v), (16, tq.v), (17, o.v), (18, .int .i64 (i : Int)), (19, p.v), (20, .int .i64 (c : Int))]) h) P := by
 intro k
 induction k with
 | zero =>
  intro c hc h p g O N
  obtain rfl : c = L.length := by omega
  rw [List.take_length] at N
  have G := Gr.trans g
  have lt := V.lt
  rw [ksr, X.len, zs_len]
  refine Runs.ifF (decide_eq_false (by omega)) ?_
  refine Runs.new fun h2 b2 g2 => ?_
  refine Runs.step (kfw b2 (by rw [kkg]; rfl)) ?_
  obtain ⟨o', h3, e3, V3, u3⟩ := ((V.grow g).grow g2).push (T := fun m => ¬ Av p m (prodC qs C (L.filter (leftP t D[i].1 (D[i].2 : Int))) [1])) (show Ef.nats.has h2 _ [p.v] _ from ⟨p, rfl, N.grow g2, fun j hj => hj⟩) (by
   cases jo with
   | none => exact trivial
   | some a =>
    intro hm
    have := own_av O hm
    have : a < hr.blks.size := lt
    omega) (ksa (by omega))
  refine Runs.step e3 (Runs.step (asSl_v _) ?_)
  rw [kf (by omega)]
  exact hP h3 _ o' (some h2.blks.size) ((G.trans g2).updo ljo u3) (show _ ≤ _ from (G.trans g2).size) (fun m hm => hm.1.elim (hSo m) fun a => Nat.le_trans Gr.size (own_av O a)) V3
 | succ k ih =>
  intro c hc h p g O N
  have G := Gr.trans g
  have hcl : c < L.length := by omega
  have hz : c < (zs L).length := by rw [zs_len]; exact hcl
  have hzc : i < (zc D).length := by rw [zc_len]; exact hi
  obtain ⟨hg, hcol⟩ := hL _ (List.getElem_mem hcl)
  have ez : (zs L)[c] = ((L[c] : Nat) : Int) := by simp [zs]
  have ec : (zc D)[i] = ((D[i].1 : Int), (D[i].2 : Int)) := by simp [zc]
  obtain ⟨r1, e1, e2, e3⟩ := (Y.grow G).two hzc
  rw [ec] at e2 e3
  obtain ⟨r2, s', e4, e5, -, q'⟩ := (q.cols.grow G).sl hf
  obtain ⟨r3, e6, e7⟩ := (X.grow G).int hz
  rw [ez] at e7
  obtain ⟨r4, e8, e9⟩ := q'.int hcol
  obtain ⟨r5, s'', e10, e11, N', -⟩ := (Q.grow G).nats hg
  have ht : L.take (c + 1) = L.take c ++ [L[c]] := List.take_succ_eq_append_getElem hcl
  have hp : leftP t D[i].1 (D[i].2 : Int) L[c] = decide (t.cols[D[i].1][L[c]] ≤ (D[i].2 : Int)) := by
   unfold leftP
   simp [List.getD, hf, hcol]
  rw [ksr, X.len, zs_len]
  rw [X.len, zs_len] at e6
  refine Runs.ifT (decide_eq_true (by omega)) (Runs.step ((G.has B).rd 2 rfl (asSl_v _)) (Runs.step e1 (Runs.step e2 (Runs.step e4 (Runs.step e5 (Runs.step e6 (Runs.step e7 (Runs.step e8 (Runs.step e9 (Runs.step e1 (Runs.step e3 ?_)))))))))))
  refine Runs.cond (fun c1 => ?_) fun c1 => ?_
  ·refine Runs.step e6 (Runs.step e7 (Runs.step e10 (Runs.step e11 ?_)))
   refine (kbaa N N' (Nq.grow G)).call fun v h1 ⟨p', e, N1, g1, O1⟩ => ?_
   subst e
   refine Runs.step (seen (asSl_v _)) ?_
   rw [kf (by omega)]
   refine ih (c + 1) (by omega) h1 p' (g.trans g1) (O1.of_le g) ?_
   rw [ht, List.filter_append]
   have hf1 : [L[c]].filter (leftP t D[i].1 (D[i].2 : Int)) = [L[c]] := by
    rw [List.filter_cons, hp, c1]
    rfl
   rw [hf1]
   unfold prodC at N1 ⊢
   have : C.getD L[c] [] = C[L[c]] := by simp [List.getD, hg]
   rw [List.foldl_append, List.foldl_cons, List.foldl_nil, this]
   exact N1
  ·rw [kf (by omega)]
   refine ih (c + 1) (by omega) h p g O ?_
   rw [ht, List.filter_append]
   have hf1 : [L[c]].filter (leftP t D[i].1 (D[i].2 : Int)) = [] := by
    rw [List.filter_cons, hp, c1]
    rfl
   rw [hf1, List.append_nil]
   exact N
theorem k6i (q : TabAt h0 S s1 s2 s3 t) (Q : Sq Ef.nats h0 Su u C) (Nq : Nats h0 tq qs) {b : Nat} (B : h0.has b [s1.v, s2.v, s3.v] T.ku) {L : List Nat} {D : List (Nat × Nat)} {x y : Sl} {S1 S2 : Fp} (X : Sq EI h0 S1 x (zs L)) (Y : Sq EP h0 S2 y (zc D)) (hD : D.length ≤ 1000) (hLl : L.length ≤ 1000) (hf : ∀ p ∈ D, ∃ hf : p.1 < t.cols.length, ∀ z ∈ L, z < C.length ∧ z < t.cols[p.1].length) : ∀ (k i : Nat), i + k = D.length → ∀ (h : AH) (So : Fp) (o : Sl) (jo : Option Nat), Grow h0 h → LeO h0.blks.size jo → (∀ m, So m → h0.blks.size ≤ m) → GF Ef.nats T.kp h So o jo (sumsC qs C (fun p => L.filter (leftP t p.1 (p.2 : Int))) (D.take i)) →
  Runs (go (.pt F.kbu Td.kid [(3, u.v), (5, .ptr (some (.new b 0))), (14, x.v), (15, y.v), (16, tq.v), (17, o.v), (18, .int .i64 (i : Int))]) h) fun v h' => Grow h0 h' ∧ ∃ (So : Fp) (o : Sl) (j : Option Nat), v = .tup [o.v, .int .i64 0] ∧ (∀ m, So m → h0.blks.size ≤ m) ∧ LeO h0.blks.size j ∧ GF Ef.nats T.kp h' So o j (sumsC qs C (fun p => L.filter (leftP t p.1 (p.2 : Int))) D) := by
 intro k
 induction k with
 | zero =>
  intro i hi h So o jo G lj hSo V
  obtain rfl : i = D.length := by omega
  rw [List.take_length] at V
  rw [kr8, Y.len, zc_len]
  exact Runs.ifF (decide_eq_false (by omega)) (Runs.ret ⟨G, So, o, jo, rfl, hSo, lj, V⟩)
 | succ k ih =>
  intro i hi h So o jo G lj hSo V
  have hi' : i < D.length := by omega
  obtain ⟨hf1, hf2⟩ := hf _ (List.getElem_mem hi')
  rw [kr8, Y.len, zc_len]
  refine Runs.ifT (decide_eq_true (by omega)) ?_
  obtain ⟨p, h1, e1, N1, g1, O1⟩ := kvw (h := h)
  refine Runs.step e1 (Runs.step (seen (asSl_v _)) ?_)
  refine k9n q Q Nq B X Y hi' hD hLl hf1 hf2 (jo := jo) (xs := sumsC qs C (fun p => L.filter (leftP t p.1 (p.2 : Int))) (D.take i)) lj (by unfold sumsC; rw [List.length_map, List.length_take]; omega) G hSo V (fun h' S' o' j' G' lj' hS' V' => ?_) L.length 0 (by omega) h1 p g1 O1 N1
  refine ih (i + 1) (by omega) h' S' o' j' G' lj' hS' ?_
  rw [List.take_succ_eq_append_getElem hi']
  unfold sumsC at V' ⊢
  rw [List.map_append]
  exact V'
theorem kbaq (M : Nats h0 z ns) (cM : kbw ns = true) (q : TabAt h0 S s1 s2 s3 t) (Q : Sq Ef.nats h0 Su u C) (N : Nats h0 s w) {b b2 : Nat} (B : h0.has b [s1.v, s2.v, s3.v] T.ku) (B2 : h0.has b2 [.int .i64 n, s.v] T.kn) (hc : faultH t n w (C.length : Int) = 0) : ∀ (k i : Nat), i + k = C.length → oddC ns (C.take i) = false → ∀ (h : AH), Grow h0 h →
  Runs (go (.pt F.kbu Td.kj7 [(0, z.v), (3, u.v), (5, .ptr (some (.new b 0))), (6, .ptr (some (.new b2 0))), (12, .int .i64 (i : Int))]) h) fun v h' => Grow h0 h' ∧ ∃ (So : Fp) (y : Sl) (j : Option Nat), v = .tup [y.v, .int .i64 (kbb ns t n w C).2] ∧ (∀ m, So m → h0.blks.size ≤ m) ∧ LeO h0.blks.size j ∧ GF Ef.nats T.kp h' So y j (kbb ns t n w C).1 := by
 obtain ⟨hR, hR2, hn, hm⟩ := kor hc
 obtain ⟨hids, hcols, hbins, hall⟩ := kd4 hR
 have hg : C.length = t.ids.length := by omega
 intro k
 induction k with
 | zero =>
  intro i hi ha h G0
  obtain rfl : i = C.length := by omega
  rw [List.take_length] at ha
  have hpl : kbb ns t n w C = (sumsC (kb1 ns) C (rowsL t n w) (cutsL t), 0) := by
   unfold kbb
   rw [if_neg (by rw [cM]; simp), if_pos hc, if_neg (by rw [ha]; simp)]
  rw [hpl]
  subst hn
  rw [ks4, Q.len]
  refine Runs.ifF (decide_eq_false (by omega)) (Runs.step ((G0.has B2).rd 0 rfl (kc _ _)) (Runs.step ((G0.has B2).rd 1 rfl (asSl_v _)) ?_))
  refine (k6x (N.grow G0)).call fun v h1 ⟨g1, x, jx, e, ljx, X⟩ => ?_
  subst e
  have G1 := G0.trans g1
  refine Runs.step (seen (asSl_v _)) (Runs.step ((G1.has B).rd 0 rfl (asSl_v _)) (Runs.step ((G1.has B).rd 1 rfl (asSl_v _)) (Runs.step ((G1.has B).rd 2 rfl (asSl_v _)) ?_)))
  refine (k89 (q.grow G1)).call fun v h2 ⟨g2, y, jy, e, ljy, Y⟩ => ?_
  subst e
  refine Runs.step (seen (asSl_v _)) ?_
  have G2 := G1.trans g2
  refine (ktc (M.grow G2)).call fun v h3 ⟨tq, e, Nq, g3, oq⟩ => ?_
  subst e
  refine Runs.step (seen (asSl_v _)) ?_
  have G := G2.trans g3
  have hL : ∀ z ∈ btL (t.ids.length : Int) w, z < t.ids.length := fun z hz => by
   unfold btL at hz
   rw [if_pos hR2, List.mem_filter, List.mem_range, Int.toNat_natCast] at hz
   exact hz.1
  have hLl : (btL (t.ids.length : Int) w).length ≤ 1000 := by
   unfold btL
   rw [if_pos hR2, Int.toNat_natCast]
   exact Nat.le_trans (List.length_filter_le _ _) (by simp; omega)
  have hCl : (cutsL t).length ≤ 1000 := by
   unfold cutsL
   rw [if_pos hR]
   have := kj9 t t.cols.length fun i hi => by
    obtain ⟨hb', h2', h32', -⟩ := kfd (hall i hi) hi hbins
    have : t.bins.getD i 0 = t.bins[i] := by simp [List.getD, hb']
    unfold nb
    rw [this]
    omega
   omega
  have := k6i (q.grow G) (Q.grow G) Nq (G.has B) ((X.grow (g2.trans g3)).sq) (Y.grow g3).sq hCl hLl (fun p hp => by
   have h1 : p.1 < t.cols.length := by
    unfold cutsL cutsTo at hp
    rw [if_pos hR] at hp
    simp only [List.mem_flatMap, List.mem_range, List.mem_map] at hp
    obtain ⟨f, hf, c, -, rfl⟩ := hp
    exact hf
   obtain ⟨-, -, -, hcl⟩ := kfd (hall _ h1) h1 hbins
   exact ⟨h1, fun z hz => by have := hL z hz; omega⟩) (cutsL t).length 0 (by omega) h3 Fp.no _ none (Grow.refl _) trivial (fun m x => x.elim) (GF.none _ _ _ _)
  refine this.imp fun v h' ⟨g4, So, o, j, e, hSo, lj, V⟩ => ⟨G.trans g4, So, o, j, e, fun m hm => Nat.le_trans G.size (hSo m hm), LeO.trans G.size lj, ?_⟩
  have : rowsL t (t.ids.length : Int) w = fun p => (btL (t.ids.length : Int) w).filter (leftP t p.1 (p.2 : Int)) := funext fun p => kbaj hR2 p
  rw [this]
  exact V
 | succ k ih =>
  intro i hi ha h G0
  have hi' : i < C.length := by omega
  obtain ⟨r, s', e1, e2, N', -⟩ := (Q.grow G0).nats hi'
  rw [ks4, Q.len]
  rw [Q.len] at e1
  have ht : C.take (i + 1) = C.take i ++ [C[i]] := List.take_succ_eq_append_getElem hi'
  refine Runs.ifT (decide_eq_true (by omega)) (Runs.step e1 (Runs.step e2 ?_))
  refine (k2c (M.grow G0) N').call fun v h1 ⟨e, g1⟩ => ?_
  subst e
  refine Runs.step (seen rfl) (Runs.cond (fun c => ?_) fun c => ?_)
  ·have ho : oddC ns C = true := by
    unfold oddC
    rw [List.any_eq_true]
    exact ⟨C[i], List.getElem_mem hi', c⟩
   have hpl : kbb ns t n w C = ([], 11) := by
    unfold kbb
    rw [if_neg (by rw [cM]; simp), if_pos hc, if_pos ho]
   rw [hpl]
   exact Runs.ret ⟨G0.trans g1, Fp.no, (⟨none, 0, .is 0⟩ : Sl), none, rfl, fun m x => x.elim, trivial, GF.none _ _ _ _⟩
  rw [kf (by have := Q.short; omega)]
  refine ih (i + 1) (by omega) ?_ h1 (G0.trans g1)
  unfold oddC at ha ⊢
  rw [ht, List.any_append, ha]
  simp only [List.any_cons, List.any_nil, Bool.or_false, Bool.false_or]
  exact c
theorem kyn (M : Nats h0 z ns) (q : TabAt h0 S s1 s2 s3 t) (N : Nats h0 s w) (Q : Sq Ef.nats h0 Su u C) : Runs (go (.fn F.kbu [z.v, .agg [s1.v, s2.v, s3.v], .agg [.int .i64 n, s.v], u.v]) h0) fun v h' => Grow h0 h' ∧ ∃ (So : Fp) (y : Sl) (j : Option Nat), v = .tup [y.v, .int .i64 (kbb ns t n w C).2] ∧ (∀ m, So m → h0.blks.size ≤ m) ∧ LeO h0.blks.size j ∧ GF Ef.nats T.kp h' So y j (kbb ns t n w C).1 := by
 rw [k8a]
 refine Runs.new fun h1 b1 g1 => Runs.new fun h2 b2 g2 => ?_
 have B1 := g2.has b1
 have G2 := g1.trans g2
 have nope : ∀ {h : AH} (c : Int), Grow h0 h → kbb ns t n w C = ([], c) → Runs (some (AV.tup [(⟨none, 0, .is 0⟩ : Sl).v, .int .i64 c], h)) fun v h' => Grow h0 h' ∧ ∃ (S : Fp) (y : Sl) (j : Option Nat), v = .tup [y.v, .int .i64 (kbb ns t n w C).2] ∧ (∀ m, S m → h0.blks.size ≤ m) ∧ LeO h0.blks.size j ∧ GF Ef.nats T.kp h' S y j (kbb ns t n w C).1 := fun c g e => by
  rw [e]
  exact Runs.ret ⟨g, Fp.no, ⟨none, 0, .is 0⟩, none, rfl, fun m x => x.elim, trivial, GF.none _ _ _ _⟩
 refine (kqk (M.grow G2)).call fun v h3 ⟨e, g3⟩ => ?_
 subst e
 have G3 := G2.trans g3
 have B1 := g3.has B1
 have B2 := g3.has b2
 refine Runs.step (seen rfl) (Runs.cond (fun c => nope 1 G3 (by unfold kbb; rw [if_pos c])) fun cM => ?_)
 refine Runs.step (B1.rd 0 rfl (asSl_v _)) (Runs.step (B1.rd 1 rfl (asSl_v _)) (Runs.step (B1.rd 2 rfl (asSl_v _)) (Runs.step (B2.rd 0 rfl (kc _ _)) (Runs.step (B2.rd 1 rfl (asSl_v _)) ?_))))
 rw [Q.len]
 refine (k20 (q.grow G3) (N.grow G3)).call fun v h4 ⟨e, g4⟩ => ?_
 subst e
 have G4 := G3.trans g4
 refine Runs.step (seen rfl) (Runs.cond (fun c => ?_) fun c => ?_)
 ·rw [Bool.not_eq_true', decide_eq_false_iff_not] at c
  exact nope _ G4 (by unfold kbb; rw [if_neg (by rw [cM]; simp), if_neg c])
 rw [Bool.not_eq_false', decide_eq_true_eq] at c
 rw [Bool.not_eq_false'] at cM
 refine (kbaq (M.grow G4) cM (q.grow G4) (Q.grow G4) (N.grow G4) (g4.has B1) (g4.has B2) c C.length 0 (by omega) (by simp [oddC]) h4 (Grow.refl _)).imp fun v h' ⟨g5, So, y, j, e, hSo, lj, V⟩ => ⟨G4.trans g5, So, y, j, e, fun m hm => Nat.le_trans G4.size (hSo m hm), LeO.trans G4.size lj, V⟩
end
end Go.Ab

/- squeezed -/
set_option linter.unusedVariables false
set_option linter.unusedSimpArgs false
set_option maxRecDepth 10000
namespace Go.Ab
open Go.Proofs Go.Num
section
variable {h0 : AH} {S S' : Fp} {s1 s2 s3 s u a b : Sl} {t : Tb} {n : Int} {w : List Nat} {C : List (List Nat)}
theorem k78 (q : Sq Ef.nats h0 S a C) (q' : Sq Ef.nats h0 S' b C) : ∀ (k i : Nat), i + k = C.length → go (.pt F.kf9 Td.km2 [(0, a.v), (1, b.v), (5, .int .i64 (i : Int))]) h0 = some (.bool true, h0) := by
 intro k
 induction k with
 | zero =>
  intro i hi
  rw [kty, q.len, condF (decide_eq_false (by omega))]
 | succ k ih =>
  intro i hi
  have hi' : i < C.length := by omega
  obtain ⟨r, x, e1, e2, n1, -⟩ := q.nats hi'
  obtain ⟨r', x', e3, e4, n2, -⟩ := q'.nats hi'
  have := q.short
  rw [kty, condT (decide_eq_true (by rw [q.len]; omega)), e1, Option.bind_some, e2, Option.bind_some, e3, Option.bind_some, e4, Option.bind_some, k30 n1 n2]
  show go _ _ = _
  rw [kf (by omega)]
  exact ih (i + 1) (by omega)
theorem k7y (q : Sq Ef.nats h0 S a C) (q' : Sq Ef.nats h0 S' b C) : go (.fn F.kf9 [a.v, b.v]) h0 = some (.bool true, h0) := by
 rw [kzu, q.len, q'.len, condF (by simp)]
 exact k78 q q' C.length 0 (by omega)
theorem few_3 (q : TabAt h0 S s1 s2 s3 t) (Q : Sq Ef.nats h0 S' u C) {b1 b2 : Nat} (B1 : h0.has b1 [s1.v, s2.v, s3.v] T.ku) (B2 : h0.has b2 [.int .i64 n, s.v] T.kn) : ∀ (k i : Nat), i + k = C.length → Runs (go (.pt F.kb5 Td.kj3 [(2, u.v), (3, .ptr (some (.new b1 0))), (4, .ptr (some (.new b2 0))), (7, .int .i64 0), (8, .int .i64 (i : Int))]) h0) fun v h' => (∃ r, v = .bool r) ∧ Grow h0 h' := by
 intro k
 induction k with
 | zero =>
  intro i hi
  rw [ktx, Q.len]
  exact Runs.ifF (decide_eq_false (by omega)) (few_8 q B1 B2 t.cols.length 0 0 (by omega))
 | succ k ih =>
  intro i hi
  have hi' : i < C.length := by omega
  obtain ⟨r, x, e1, e2, n1, -⟩ := Q.nats hi'
  have := Q.short
  rw [ktx]
  refine Runs.ifT (decide_eq_true (by rw [Q.len]; omega)) (Runs.step e1 (Runs.step e2 (Runs.cond (fun _ => Runs.ret ⟨⟨_, rfl⟩, Grow.refl _⟩) fun _ => Runs.cond (fun _ => Runs.ret ⟨⟨_, rfl⟩, Grow.refl _⟩) fun _ => ?_)))
  rw [kf (by omega)]
  exact ih (i + 1) (by omega)
theorem few_is (q : TabAt h0 S s1 s2 s3 t) (Q : Sq Ef.nats h0 S' u C) : Runs (go (.fn F.kb5 [.agg [s1.v, s2.v, s3.v], .agg [.int .i64 n, s.v], u.v]) h0) fun v h' => (∃ r, v = .bool r) ∧ Grow h0 h' := by
 rw [k2t]
 refine Runs.new fun h1 b1 g1 => Runs.new fun h2 b2 g2 => ?_
 exact (few_3 (q.grow (g1.trans g2)) (Q.grow (g1.trans g2)) (g2.has b1) b2 C.length 0 (by omega)).imp fun v h' ⟨e, g⟩ => ⟨e, (g1.trans g2).trans g⟩
end
theorem k15 {h : AH} {cs : List AV} (a : ArgT Pg h T.kp cs) : ∃ xs, Ef.nats.has h Fp.no cs xs := by
 obtain ⟨s, xs, e, n⟩ := kv9 a
 refine ⟨xs, s, e, n, fun j hj => hj ?_⟩
 rcases a.slice ku9 with h1 | ⟨ad, len, cap, h1, -⟩
 ·rw [e] at h1
  cases s
  simp [Sl.v] at h1
  obtain ⟨rfl, rfl, rfl⟩ := h1
  exact .inr fun o ho => by cases ho
 ·rw [e] at h1
  cases s
  simp [Sl.v] at h1
  obtain ⟨rfl, rfl, rfl⟩ := h1
  exact .inr fun o ho => by cases ho
theorem k85 {h : AH} {cs : List AV} (a : ArgT Pg h T.kci cs) : ∃ (s : Sl) (xs : List (List Nat)), cs = [s.v] ∧ Sq Ef.nats h Fp.no s xs := Sq.of_arg (E := Ef.nats) kym kkg (fun es t => k15 t) a
theorem k0d {h : AH} {x : AV} (a : ArgV Pg h T.ki8 x) : ∃ (z u : Sl) (ns : List Nat) (C : List (List Nat)), x = .agg [z.v, u.v] ∧ Nats h z ns ∧ Sq Ef.nats h Fp.no u C := by
 unfold ArgV at a
 rw [kwp] at a
 obtain ⟨cs, rfl, t⟩ := a
 obtain ⟨hl, hf⟩ := t.struct kwp
 rw [k5s] at hl
 match cs, hl with
 | [x0, x1], _ =>
  simp [kkg, k6r] at hf
  obtain ⟨h0, h1⟩ := hf
  obtain ⟨z, ns, e0, N⟩ := kv9 h0
  obtain ⟨u, C, e1, Q⟩ := k85 h1
  cases e0; cases e1
  exact ⟨z, u, ns, C, rfl, N, Q⟩
theorem HistCipherCard_law (h : AH) (T0 : Tab h) {x1 x2 x3 : AV} (z1 : ArgV Pg h T.ki8 x1) (z2 : ArgV Pg h T.ku x2) (z3 : ArgV Pg h T.kn x3) : ∃ h', go (.fn F.knj [x1, x2, x3]) h = some (.bool true, h') := by
 obtain ⟨z, u, ns, C, rfl, M, Q⟩ := k0d z1
 obtain ⟨s1, s2, s3, t, rfl, q⟩ := tab_of z2
 obtain ⟨n, s, w, rfl, N⟩ := k58 z3
 suffices H : Runs (go (.fn F.knj [.agg [z.v, u.v], .agg [s1.v, s2.v, s3.v], .agg [.int .i64 n, s.v]]) h) fun v _ => v = .bool true by
  obtain ⟨_, h', e, rfl⟩ := H
  exact ⟨h', e⟩
 rw [k7d]
 refine Runs.new fun ha ba ga => Runs.new fun h1 b1 g1 => Runs.new fun h2 b2 g2 => ?_
 have g02 := (ga.trans g1).trans g2
 refine (kyu (T0.grow g02)).call fun _ h3 ⟨e, g3⟩ => ?_
 subst e
 have Ba := (g1.trans (g2.trans g3)).has ba
 have B1 := (g2.trans g3).has b1
 have B2 := g3.has b2
 have G3 := g02.trans g3
 refine Runs.step (seen rfl) ?_
 refine Runs.step (B1.rd 0 rfl (asSl_v _)) (Runs.step (B1.rd 1 rfl (asSl_v _)) (Runs.step (B1.rd 2 rfl (asSl_v _)) (Runs.step (B2.rd 0 rfl (kc _ _)) (Runs.step (B2.rd 1 rfl (asSl_v _)) (Runs.step (Ba.rd 1 rfl (asSl_v _)) ?_)))))
 refine (few_is (q.grow G3) (Q.grow G3)).call fun _ h4 ⟨⟨r, e⟩, g4⟩ => ?_
 subst e
 have Ba := g4.has Ba
 have B1 := g4.has B1
 have B2 := g4.has B2
 have G4 := G3.trans g4
 refine Runs.step (seen rfl) (Runs.cond (fun _ => Runs.ret rfl) fun _ => Runs.step (Ba.rd 0 rfl (asSl_v _)) (Runs.cond (fun _ => Runs.ret rfl) fun _ => ?_))
 refine Runs.step (Ba.rd 0 rfl (asSl_v _)) (Runs.step (B1.rd 0 rfl (asSl_v _)) (Runs.step (B1.rd 1 rfl (asSl_v _)) (Runs.step (B1.rd 2 rfl (asSl_v _)) (Runs.step (B2.rd 0 rfl (kc _ _)) (Runs.step (B2.rd 1 rfl (asSl_v _)) (Runs.step (Ba.rd 1 rfl (asSl_v _)) ?_))))))
 refine (kxb (T0.grow G4) (M.grow G4) (q.grow G4) (N.grow G4) (Q.grow G4)).call fun _ h5 ⟨g5, So5, y5, j5, e, hS5, l5, V5⟩ => ?_
 subst e
 have Ba := g5.has Ba
 have B1 := g5.has B1
 have B2 := g5.has B2
 have G5 := G4.trans g5
 refine Runs.step rfl (Runs.step (seen (asSl_v _)) (Runs.step (seen (kc _ _)) ?_))
 refine Runs.step (Ba.rd 0 rfl (asSl_v _)) (Runs.step (B1.rd 0 rfl (asSl_v _)) (Runs.step (B1.rd 1 rfl (asSl_v _)) (Runs.step (B1.rd 2 rfl (asSl_v _)) (Runs.step (B2.rd 0 rfl (kc _ _)) (Runs.step (B2.rd 1 rfl (asSl_v _)) (Runs.step (Ba.rd 1 rfl (asSl_v _)) ?_))))))
 refine (kyn (M.grow G5) (q.grow G5) (N.grow G5) (Q.grow G5)).call fun _ h6 ⟨g6, So6, y6, j6, e, hS6, l6, V6⟩ => ?_
 subst e
 refine Runs.step rfl (Runs.step (seen (asSl_v _)) (Runs.step (seen (kc _ _)) ?_))
 refine Runs.step (k7y (V5.grow g6).sq V6.sq) ?_
 refine Runs.step (seen rfl) (Runs.ifT rfl (Runs.ifT rfl (Runs.ret ?_)))
 rw [decide_eq_true rfl]
end Go.Ab
