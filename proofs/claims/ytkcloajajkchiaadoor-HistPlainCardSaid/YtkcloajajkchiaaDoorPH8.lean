/- squeezed -/
import Derived.Test.YtkcloajajkchiaaDoorPU1

set_option linter.unusedVariables false
set_option linter.unusedSimpArgs false
set_option maxRecDepth 10000
namespace Go.Ab
open Go.Proofs
def andL (n1 : Int) (w1 : List Nat) (n2 : Int) (w2 : List Nat) : List Nat := if btR n1 w1 && (btR n2 w2 && decide (n1 = n2)) then (btL n1 w1).filter (wbit w2) else []
def SetP (h0 : AH) (l : List Nat) (v : AV) (h' : AH) : Prop := Grow h0 h' ∧ ∃ (n : Int) (t : Sl) (w : List Nat) (e : Int), v = .tup [.agg [.int .i64 n, t.v], .int .i64 e] ∧ Nats h' t w ∧ Own h0 t ∧ btL n w = l
theorem kph : btL 0 [] = [] := by
 unfold btL
 split <;> rfl
section
variable {h0 : AH} {s1 s2 : Sl} {w1 w2 : List Nat} {n1 n2 : Int}
theorem kpw (N1 : Nats h0 s1 w1) (N2 : Nats h0 s2 w2) (hl : w1.length = w2.length) (hs : w1.length ≤ 2000) {b1 b2 b3 b4 i : Nat} {t : Sl} {x1 x2 : Int} (i1 : b1 ≠ i) (i2 : b2 ≠ i) (i3 : b3 ≠ i) (i4 : b4 ≠ i) (h3 : h0.blks.size ≤ b3) (hi : h0.blks.size ≤ i) : ∀ (k j : Nat), j + k = w1.length → ∀ (h : AH) (w : List Nat), Grow h0 h → h.has b1 [.int .i64 x1, s1.v] T.kf → h.has b2 [.int .i64 x2, s2.v] T.kf → (∃ cs : List AV, cs.length = 2 ∧ h.has b3 cs T.kf) → h.has b4 [.int .i64 n1, t.v] T.kf → Vec h t i w → w.length = w1.length → (∀ m, m / 64 < j → wbit w m = (wbit w1 m && wbit w2 m)) →
  Runs (go (.pt F.kcq Td.ke5 [(2, .func (.func F.kb3) [] []), (3, .ptr (some (.new b1 0))), (4, .ptr (some (.new b2 0))), (6, .ptr (some (.new b3 0))), (8, .ptr (some (.new b4 0))), (9, .int .i64 0), (35, .int .i64 (w1.length : Int)), (36, .int .i64 (j : Int))]) h) fun v h' => Grow h0 h' ∧ ∃ (t : Sl) (w : List Nat), v = .tup [.agg [.int .i64 n1, t.v], .int .i64 0] ∧ Nats h' t w ∧ w.length = w1.length ∧ Own h0 t ∧ ∀ m, wbit w m = (wbit w1 m && wbit w2 m) := by
 intro k
 induction k with
 | zero =>
  intro j hj h w g B1 B2 ⟨cs, hcs, B3⟩ B4 V hw hm
  obtain rfl : j = w1.length := by omega
  rw [kj7]
  refine Runs.ifF (decide_eq_false (by omega)) (Runs.step (B4.rd 0 rfl (kc _ _)) (Runs.step (B4.rd 1 rfl (asSl_v _)) ?_))
  refine Runs.puts B3 (by rw [hcs]; rfl) fun h1 B5 u1 => ?_
  refine Runs.step (B5.rd 0 rfl (kc _ _)) (Runs.step (B5.rd 1 rfl (asSl_v _)) (Runs.ret ⟨g.updr h3 u1, t, w, rfl, (V.updr (fun e => i3 e.symm) u1).nats, hw, V.own hi, fun m => ?_⟩))
  rcases Nat.lt_or_ge (m / 64) w1.length with h' | h'
  ·exact hm m h'
  ·rw [kie (by omega), kie (w := w1) h']; rfl
 | succ k ih =>
  intro j hj h w g B1 B2 ⟨cs, hcs, B3⟩ B4 V hw hm
  have j1 : j < w1.length := by omega
  have j2 : j < w2.length := by omega
  obtain ⟨r1, e1, e2⟩ := (N1.grow g).rdN j1
  obtain ⟨r2, e3, e4⟩ := (N2.grow g).rdN j2
  rw [kj7]
  refine Runs.ifT (decide_eq_true (by omega)) (Runs.step (B4.rd 1 rfl (asSl_v _)) (Runs.step (B1.rd 1 rfl (asSl_v _)) (Runs.step e1 (Runs.step e2 (Runs.step (B2.rd 1 rfl (asSl_v _)) (Runs.step e3 (Runs.step e4 ?_)))))))
  have a1 : w1[j] < 18446744073709551616 := N1.lt _ (List.getElem_mem j1)
  have a2 : w2[j] < 18446744073709551616 := N2.lt _ (List.getElem_mem j2)
  refine Runs.step (kp2 _ _ _) (Runs.step (seen rfl) ?_)
  rw [kfx a1 a2]
  refine Runs.when ((Grow.refl h).same B4 1 1) ?_
  rw [V.len]
  have hq : j < w.length := by omega
  have hlt : w1[j] &&& w2[j] < 18446744073709551616 := Nat.lt_of_le_of_lt Nat.and_le_left a1
  refine Runs.step (V.idx rfl (kc3 hq)) (Runs.vput V rfl (kc3 hq) (kkc hlt) fun h1 V1 u1 => ?_)
  rw [ki (by omega)]
  refine ih (j + 1) (by omega) h1 _ (g.updr hi u1) (B1.updr i1 u1) (B2.updr i2 u1) ⟨cs, hcs, B3.updr i3 u1⟩ (B4.updr i4 u1) V1 (by rw [List.length_set]; exact hw) fun m hm' => ?_
  rw [ko5 hq]
  split
  ·rename_i hmj
   subst hmj
   rw [Nat.testBit_and]
   unfold wbit
   simp [List.getD, j1, j2]
  ·exact hm m (by omega)
theorem kmq (N1 : Nats h0 s1 w1) (N2 : Nats h0 s2 w2) : Runs (go (.fn F.kcq [.agg [.int .i64 n1, s1.v], .agg [.int .i64 n2, s2.v], .func (.func F.kb3) [] []]) h0) (SetP h0 (andL n1 w1 n2 w2)) := by
 rw [kpa]
 refine Runs.new fun h1 b1 g1 => Runs.new fun h2 b2 g2 => Runs.new fun h3 b3 g3 => ?_
 have B1 := g3.has (g2.has b1)
 have B2 := g3.has b2
 have G3 : Grow h0 h3 := (g1.trans g2).trans g3
 have s1' : h0.blks.size < h1.blks.size := b1.lt
 have s2' : h1.blks.size < h2.blks.size := b2.lt
 have s3' : h2.blks.size < h3.blks.size := b3.lt
 refine Runs.step (B1.rd 0 rfl (kc _ _)) (Runs.step (B1.rd 1 rfl (asSl_v _)) ?_)
 refine (keo (N1.grow G3)).call fun v h4 ⟨e, g4⟩ => ?_
 subst e
 refine Runs.step (seen rfl) ?_
 have bad : ∀ {h : AH}, Grow h3 h → andL n1 w1 n2 w2 = [] → Runs ((h.puts (Ref.new h2.blks.size 0) [.int .i64 0, (⟨none, 0, .is 0⟩ : Sl).v]).bind fun h12 =>
   ((h12.cell ((Ref.new h2.blks.size 0).add 0)).bind (AV.asInt .i64)).bind fun n13 => ((h12.cell ((Ref.new h2.blks.size 0).add 1)).bind AV.asSl).bind fun l14 => some (.tup [.agg [.int .i64 n13, l14.v], .int .i64 1], h12)) (SetP h0 (andL n1 w1 n2 w2)) := by
  intro h g e
  refine Runs.puts (g.has b3) rfl fun h' b' u' => Runs.step (b'.rd 0 rfl (kc _ _)) (Runs.step (b'.rd 1 rfl (asSl_v _)) (Runs.ret ⟨(G3.trans g).updr (by omega) u', 0, _, [], 1, rfl, Nats.nil _, Own.nil _, ?_⟩))
  rw [e, kph]
 refine Runs.cond (fun c => bad g4 ?_) fun c => ?_
 ·rw [Bool.not_eq_true'] at c
  unfold andL
  rw [c]; rfl
 rw [Bool.not_eq_false'] at c
 have B2' := g4.has B2
 refine Runs.step (B2'.rd 0 rfl (kc _ _)) (Runs.step (B2'.rd 1 rfl (asSl_v _)) ?_)
 refine (keo (N2.grow (G3.trans g4))).call fun v h5 ⟨e, g5⟩ => ?_
 subst e
 refine Runs.step (seen rfl) ?_
 have g35 : Grow h3 h5 := g4.trans g5
 refine Runs.cond (fun c2 => bad g35 ?_) fun c2 => ?_
 ·rw [Bool.not_eq_true'] at c2
  unfold andL
  rw [c, c2]; rfl
 rw [Bool.not_eq_false'] at c2
 refine Runs.step ((g35.has B1).rd 0 rfl (kc _ _)) (Runs.step ((g35.has B2).rd 0 rfl (kc _ _)) ?_)
 refine Runs.cond (fun c3 => bad g35 ?_) fun c3 => ?_
 ·rw [Bool.not_eq_true', decide_eq_false_iff_not] at c3
  unfold andL
  rw [c, c2, decide_eq_false c3]; rfl
 rw [Bool.not_eq_false', decide_eq_true_eq] at c3
 subst c3
 obtain ⟨p0, p1, p2, p3⟩ := btR_n c
 obtain ⟨-, -, q2, q3⟩ := btR_n c2
 obtain ⟨z, rfl⟩ : ∃ z : Nat, n1 = (z : Int) := ⟨n1.toNat, by omega⟩
 rw [Int.toNat_natCast] at p2 q2 p3 q3
 refine Runs.step ((g35.has B1).rd 0 rfl (kc _ _)) ?_
 refine (khu (n := z) (by omega)).call fun v h6 ⟨g6, t, i, e, hi, V⟩ => ?_
 have hi : h5.blks.size ≤ i := hi
 subst e
 refine Runs.step rfl (Runs.step rfl (Runs.ifT rfl (Runs.step rfl (Runs.step (seenAt rfl (asSl_v _)) (Runs.step rfl ?_)))))
 dsimp only
 refine Runs.new fun h7 b7 g7 => Runs.puts b7 rfl fun h8 b8 u8 => Runs.step (b8.rd 1 rfl (asSl_v _)) ?_
 have s6 : i < h6.blks.size := V.inn
 have s5 : h3.blks.size ≤ h5.blks.size := g35.size
 have s6' : h5.blks.size ≤ h6.blks.size := g6.size
 have g38 : Grow h3 h8 := ((g35.trans g6).trans g7).updr (by omega) u8
 have V8 : Vec h8 t i (List.replicate ((z + 63) / 64) 0) := (V.grow g7).updr (by omega) u8
 rw [V8.len, List.length_replicate, ← p2]
 have := kpw (n1 := (z : Int)) (x1 := (z : Int)) (x2 := (z : Int)) N1 N2 (by omega) (by omega) (b1 := h0.blks.size) (b2 := h1.blks.size) (b3 := h2.blks.size) (b4 := h6.blks.size) (i := i) (t := t) (by omega) (by omega) (by omega) (by omega) (by omega) (by omega) w1.length 0 (by omega) h8 _ (G3.trans g38) (g38.has B1) (g38.has B2) ⟨_, rfl, g38.has b3⟩ b8 V8 (by rw [List.length_replicate, p2]) (fun m hm => absurd hm (Nat.not_lt_zero _))
 refine this.imp fun v h' ⟨g, t', w, e, N, hw, o, hm⟩ => ⟨g, (z : Int), t', w, 0, e, N, o, ?_⟩
 have hR : btR (z : Int) w = true := btR_of p0 p1 (by rw [Int.toNat_natCast]; omega) fun m hm1 hm2 => by
  rw [hm, p3 m (by omega) hm2]; rfl
 unfold andL btL
 rw [hR, c, c2, decide_eq_true rfl, Int.toNat_natCast]
 simp only [Bool.and_self, if_true, List.filter_filter]
 apply List.filter_congr
 intro x _
 rw [hm, Bool.and_comm]
theorem kmu (N1 : Nats h0 s1 w1) (N2 : Nats h0 s2 w2) : Runs (go (.fn F.kfb [.agg [.int .i64 n1, s1.v], .agg [.int .i64 n2, s2.v]]) h0) (SetP h0 (andL n1 w1 n2 w2)) := by
 rw [kk9]
 refine Runs.new fun h1 b1 g1 => Runs.new fun h2 b2 g2 => Runs.new fun h3 b3 g3 => ?_
 have B1 := g3.has (g2.has b1)
 have B2 := g3.has b2
 have G3 : Grow h0 h3 := (g1.trans g2).trans g3
 refine Runs.step (B1.rd 0 rfl (kc _ _)) (Runs.step (B1.rd 1 rfl (asSl_v _)) (Runs.step (B2.rd 0 rfl (kc _ _)) (Runs.step (B2.rd 1 rfl (asSl_v _)) ?_)))
 refine (kmq (N1.grow G3) (N2.grow G3)).call fun v h4 ⟨g4, n, t, w, e, he, N, ho, hb⟩ => ?_
 subst he
 refine Runs.step rfl (Runs.step rfl (Runs.ifT rfl (Runs.step rfl (Runs.step (seenAt rfl (asSl_v _)) (Runs.step rfl ?_)))))
 dsimp only
 have s1 : h0.blks.size < h1.blks.size := b1.lt
 have s2 : h1.blks.size < h2.blks.size := b2.lt
 refine Runs.puts (g4.has b3) rfl fun h5 b5 u5 => Runs.step (b5.rd 0 rfl (kc _ _)) (Runs.step (b5.rd 1 rfl (asSl_v _)) (Runs.ret ⟨(G3.trans g4).updr (by omega) u5, n, t, w, e, rfl, N.updr ho b3.lt u5, ho.of_le G3, hb⟩))
end
end Go.Ab

/- squeezed -/
set_option linter.unusedVariables false
set_option linter.unusedSimpArgs false
set_option maxRecDepth 10000
namespace Go.Ab
open Go.Proofs
theorem kca {t : Tb} (h : tabR t = true) : t.ids.length ≤ 256 ∧ t.cols.length ≤ 16 ∧ t.bins.length = t.cols.length ∧ ∀ i, i < t.cols.length → colR t i = true := by
 unfold tabR idsR at h
 simp only [Bool.and_eq_true, decide_eq_true_eq, List.all_eq_true, List.mem_range, Bool.not_eq_true', decide_eq_false_iff_not] at h
 exact ⟨h.1.1.1.1, by omega, h.1.2, h.2⟩
theorem kb8 {t : Tb} {i : Nat} (h : colR t i = true) (hi : i < t.cols.length) (hb : t.bins.length = t.cols.length) : ∃ hb' : i < t.bins.length, 2 ≤ t.bins[i] ∧ t.bins[i] ≤ 32 ∧ t.cols[i].length = t.ids.length := by
 unfold colR at h
 have hb' : i < t.bins.length := by omega
 simp only [Bool.and_eq_true, decide_eq_true_eq, Bool.not_eq_true', decide_eq_false_iff_not, List.getD, List.getElem?_eq_getElem hi, List.getElem?_eq_getElem hb', Option.getD_some] at h
 exact ⟨hb', by omega, by omega, h.1.2⟩
def leftP (t : Tb) (f : Nat) (c : Int) (i : Nat) : Bool := decide ((t.cols.getD f []).getD i 0 ≤ c)
def leftR (t : Tb) (f : Nat) (c : Int) : List Nat := (List.range t.ids.length).filter (leftP t f c)
section
variable {h0 : AH} {S : Fp} {s1 s2 s3 : Sl} {t : Tb}
theorem kp1 {s : Sl} {f : Nat} {c : Int} (hf : f < t.cols.length) (hc : t.cols[f].length = t.ids.length) (hids : t.ids.length ≤ 256) (q : Sq EI h0 S s t.cols[f]) {b1 b2 : Nat} {cs2 : List AV} (n1 : Sq EI h0 S s1 t.ids) (B1 : h0.has b1 [s1.v, s2.v, s3.v] T.kj) (B2 : h0.has b2 [.int .i64 0, (⟨none, 0, .is 0⟩ : Sl).v] T.kf) {ha : AH} (ga : Grow ha h0) (hb2 : ha.blks.size ≤ b2) : ∀ (k i : Nat), i + k = t.ids.length → ∀ (h : AH) (x : Sl) (j : Option Nat), Grow h0 h → LeO h0.blks.size j → GF EI T.int h Fp.no x j (zs ((List.range i).filter (leftP t f c))) →
  Runs (go (.pt F.kb0 Td.kdl [(2, .int .i64 c), (3, .ptr (some (.new b1 0))), (6, .ptr (some (.new b2 0))), (8, x.v), (44, s.v), (45, .int .i64 (t.ids.length : Int)), (46, .int .i64 (i : Int))]) h) fun v h' => Grow ha h' ∧ ∃ (y : Sl) (w : List Nat), v = .tup [.agg [.int .i64 (t.ids.length : Int), y.v], .int .i64 0] ∧ Nats h' y w ∧ Own ha y ∧ w.length = (t.ids.length + 63) / 64 ∧ ∀ m, wbit w m = decide (m ∈ leftR t f c) := by
 intro k
 induction k with
 | zero =>
  intro i hi h x j g lj V
  obtain rfl : i = t.ids.length := by omega
  rw [ki7]
  refine Runs.ifF (decide_eq_false (by omega)) (Runs.step ((g.has B1).rd 0 rfl (asSl_v _)) ?_)
  rw [n1.len]
  refine (knb (S := Fp.or (Fp.opt j) Fp.no) (l := leftR t f c) (n := t.ids.length) V.sq (fun y hy => ?_) (by omega)).call fun v h1 ⟨g1, y, w, e, N, hw, o, hm⟩ => ?_
  ·unfold leftR at hy
   rw [List.mem_filter, List.mem_range] at hy
   exact hy.1
  subst e
  refine Runs.step rfl (Runs.step rfl (Runs.ifT rfl (Runs.step rfl (Runs.step (seenAt rfl (asSl_v _)) (Runs.step rfl ?_)))))
  dsimp only
  have hlt := (g.has B2).lt
  refine Runs.puts (g1.has (g.has B2)) rfl fun h2 b2' u2 => Runs.step (b2'.rd 0 rfl (kc _ _)) (Runs.step (b2'.rd 1 rfl (asSl_v _)) (Runs.ret ⟨?_, y, w, rfl, N.updr o hlt u2, ?_, hw, hm⟩))
  ·exact ((ga.trans g).trans g1).updr hb2 u2
  ·exact o.of_le (ga.trans g)
 | succ k ih =>
  intro i hi h x j g lj V
  have hi' : i < t.cols[f].length := by omega
  obtain ⟨r, e1, e2⟩ := (q.grow g).int hi'
  rw [q.len, hc] at e1
  rw [ki7]
  have hp : leftP t f c i = decide (t.cols[f][i] ≤ c) := by
   unfold leftP
   simp [List.getD, hf, hi']
  have hr : (List.range (i + 1)).filter (leftP t f c) = (List.range i).filter (leftP t f c) ++ if leftP t f c i then [i] else [] := by
   rw [List.range_succ, List.filter_append]
   cases hq : leftP t f c i <;> simp [hq]
  have hlen : (zs ((List.range i).filter (leftP t f c))).length ≤ i := by
   rw [zs_len]
   exact Nat.le_trans (List.length_filter_le _ _) (by simp)
  refine Runs.ifT (decide_eq_true (by omega)) ?_
  rw [q.len, hc]
  refine Runs.step e1 (Runs.step e2 (Runs.cond (fun k1 => ?_) fun k1 => ?_))
  ·refine Runs.new fun h2 b2 g2 => ?_
   refine Runs.step (kc9 b2 (by rw [kdg]; rfl)) ?_
   have V2 := V.grow g2
   obtain ⟨y, h3, e3, V3, u3⟩ := V2.push (T := Fp.no) (cs := [.int .i64 (i : Int)]) (x := (i : Int)) rfl NotO.no (kf0 (by omega))
   refine Runs.step e3 (Runs.step (asSl_v _) ?_)
   rw [ki (by omega)]
   refine ih (i + 1) (by omega) h3 y (some h2.blks.size) ((g.trans g2).updo lj u3) (show _ ≤ _ from (g.trans g2).size) ?_
   rw [hr, hp, k1, if_pos rfl, zs_app]
   exact V3.mono (fun j x => x.1.elim id id) NotO.no
  ·rw [ki (by omega)]
   refine ih (i + 1) (by omega) h x j g lj ?_
   rw [hr, hp, k1]
   simpa using V
theorem kny (n : TabAt h0 S s1 s2 s3 t) (hR : tabR t = true) {f : Nat} {c : Nat} (hf : f < t.cols.length) (hc : (c : Int) < t.bins.getD f 0) : Runs (go (.fn F.kb0 [.agg [s1.v, s2.v, s3.v], .int .i64 (f : Int), .int .i64 (c : Int)]) h0) fun v h' => Grow h0 h' ∧ ∃ (y : Sl) (w : List Nat), v = .tup [.agg [.int .i64 (t.ids.length : Int), y.v], .int .i64 0] ∧ Nats h' y w ∧ Own h0 y ∧ w.length = (t.ids.length + 63) / 64 ∧ ∀ m, wbit w m = decide (m ∈ leftR t f (c : Int)) := by
 obtain ⟨hids, hcols, hbins, hall⟩ := kca hR
 obtain ⟨hb, h2, h32, hcl⟩ := kb8 (hall f hf) hf hbins
 rw [kot]
 refine Runs.new fun h1 b1 g1 => Runs.new fun h2 b2 g2 => ?_
 have B1 := g2.has b1
 refine Runs.step (B1.rd 0 rfl (asSl_v _)) (Runs.step (B1.rd 1 rfl (asSl_v _)) (Runs.step (B1.rd 2 rfl (asSl_v _)) ?_))
 refine (kfy (n.grow (g1.trans g2))).call fun v h3 ⟨e, g3⟩ => ?_
 subst e
 rw [hR]
 refine Runs.step (seen rfl) (Runs.ifF rfl (Runs.ifF (decide_eq_false (by omega)) ?_))
 have G3 : Grow h0 h3 := (g1.trans g2).trans g3
 have B1' := g3.has B1
 refine Runs.step (B1'.rd 2 rfl (asSl_v _)) ?_
 rw [n.cols.len]
 refine Runs.ifF (decide_eq_false (by omega)) (Runs.ifF (decide_eq_false (by omega)) (Runs.step (B1'.rd 1 rfl (asSl_v _)) ?_))
 obtain ⟨r, e1, e2⟩ := (n.bins.grow G3).int hb
 have hgd : t.bins.getD f 0 = t.bins[f] := by simp [List.getD, hb]
 rw [hgd] at hc
 refine Runs.step e1 (Runs.step e2 (Runs.ifF (decide_eq_false (by omega)) (Runs.step (B1'.rd 2 rfl (asSl_v _)) ?_)))
 obtain ⟨r2, s', e3, e4, -, q⟩ := (n.cols.grow G3).sl hf
 refine Runs.step e3 (Runs.step e4 ?_)
 rw [q.len, hcl]
 have s1' := b1.lt
 exact kp1 (cs2 := []) hf hcl hids q ((n.grow G3).ids) B1' (g3.has b2) G3 (by have := g1.size; omega) t.ids.length 0 (by omega) h3 _ none (Grow.refl h3) trivial (GF.none _ _ _ _)
end
end Go.Ab

/- squeezed -/
set_option linter.unusedVariables false
set_option linter.unusedSimpArgs false
set_option maxRecDepth 10000
namespace Go.Ab
open Go.Proofs
def nb (t : Tb) (f : Nat) : Nat := (t.bins.getD f 0).toNat - 1
def cutsTo (t : Tb) (f : Nat) : List (Nat × Nat) := (List.range f).flatMap fun f => (List.range (nb t f)).map fun c => (f, c)
def cutsL (t : Tb) : List (Nat × Nat) := if tabR t then cutsTo t t.cols.length else []
def rowsL (t : Tb) (n : Int) (w : List Nat) (p : Nat × Nat) : List Nat := if btR n w && decide ((t.ids.length : Int) = n) then (leftR t p.1 (p.2 : Int)).filter (wbit w) else []
theorem kgm (t : Tb) (f : Nat) : cutsTo t (f + 1) = cutsTo t f ++ (List.range (nb t f)).map fun c => (f, c) := by
 unfold cutsTo
 rw [List.range_succ, List.flatMap_append]
 simp
theorem kea (t : Tb) : ∀ f : Nat, (∀ i, i < f → nb t i ≤ 31) → (cutsTo t f).length ≤ 31 * f
 | 0, _ => by simp [cutsTo]
 | f + 1, h => by
  rw [kgm, List.length_append, List.length_map, List.length_range]
  have := kea t f fun i hi => h i (by omega)
  have := h f (by omega)
  omega
section
variable {S : Fp} {s1 s2 s3 s : Sl} {t : Tb} {n : Int} {w : List Nat} {l b1 b2 : Nat}
structure EachOk (S : Fp) (s1 s2 s3 s : Sl) (t : Tb) (n : Int) (w : List Nat) (b1 b2 : Nat) (h : AH) : Prop where
 tab : Tab h
 at' : TabAt h S s1 s2 s3 t
 nats : Nats h s w
 has1 : h.has b1 [s1.v, s2.v, s3.v] T.kj
 has2 : h.has b2 [.int .i64 n, s.v] T.kf
theorem EachOk.grow {h h' : AH} (e : EachOk S s1 s2 s3 s t n w b1 b2 h) (g : Grow h h') : EachOk S s1 s2 s3 s t n w b1 b2 h' := ⟨e.tab.grow g, e.at'.grow g, e.nats.grow g, g.has e.has1, g.has e.has2⟩
theorem kqm {h : AH} (E : EachOk S s1 s2 s3 s t n w b1 b2 h) (hR : tabR t = true) {f c : Nat} (hf : f < t.cols.length) (hc : (c : Int) < t.bins.getD f 0) {K : Sl → AH → Option (AV × AH)} {P : AV → AH → Prop} (H : ∀ (y : Sl) (j : Option Nat) (h' : AH), Grow h h' → GF EI T.int h' Fp.no y j (zs (rowsL t n w (f, c))) → Runs (K y h') P) :
  Runs (((h.cell ((Ref.new b1 0).add 0)).bind AV.asSl).bind fun l10 =>
   ((h.cell ((Ref.new b1 0).add 1)).bind AV.asSl).bind fun l11 =>
   ((h.cell ((Ref.new b1 0).add 2)).bind AV.asSl).bind fun l12 =>
   (go (.fn F.kb0 [.agg [l10.v, l11.v, l12.v], .int .i64 (f : Int), .int .i64 (c : Int)]) h).bind fun q13 =>
   (AV.asTup2 q13.1).bind fun p14 =>
   (AV.asAgg p14.1).bind fun cs15 =>
   cond (Nat.beq cs15.length 2) (
   ((cs15[0]?).bind (AV.asInt .i64)).bind fun n16 =>
   ((cs15[1]?).bind AV.asSl).bind fun l17 =>
   ((some p14.2).bind (AV.asInt .i64)).bind fun n18 =>
   newK q13.2 (.cells [.int .i64 0, (⟨none, 0, .is 0⟩ : Sl).v] T.kf) fun h19r h19 =>
   (h19.puts h19r [.int .i64 n16, l17.v]).bind fun h20 =>
   ((h20.cell (h19r.add 0)).bind (AV.asInt .i64)).bind fun n21 =>
   ((h20.cell (h19r.add 1)).bind AV.asSl).bind fun l22 =>
   ((h20.cell ((Ref.new b2 0).add 0)).bind (AV.asInt .i64)).bind fun n23 =>
   ((h20.cell ((Ref.new b2 0).add 1)).bind AV.asSl).bind fun l24 =>
   (go (.fn F.kfb [.agg [.int .i64 n21, l22.v], .agg [.int .i64 n23, l24.v]]) h20).bind fun q25 =>
   (AV.asTup2 q25.1).bind fun p26 =>
   (AV.asAgg p26.1).bind fun cs27 =>
   cond (Nat.beq cs27.length 2) (
   ((cs27[0]?).bind (AV.asInt .i64)).bind fun n28 =>
   ((cs27[1]?).bind AV.asSl).bind fun l29 =>
   ((some p26.2).bind (AV.asInt .i64)).bind fun n30 =>
   (q25.2.puts h19r [.int .i64 n28, l29.v]).bind fun h31 =>
   ((h31.cell (h19r.add 0)).bind (AV.asInt .i64)).bind fun n32 =>
   ((h31.cell (h19r.add 1)).bind AV.asSl).bind fun l33 =>
   (go (.fn F.kfd [.agg [.int .i64 n32, l33.v]]) h31).bind fun q34 =>
   ((some q34.1).bind AV.asSl).bind fun l35 => K l35 q34.2) none) none) P := by
 refine Runs.step (E.has1.rd 0 rfl (asSl_v _)) (Runs.step (E.has1.rd 1 rfl (asSl_v _)) (Runs.step (E.has1.rd 2 rfl (asSl_v _)) ?_))
 refine (kny E.at' hR hf hc).call fun v h1 ⟨g1, y1, w1, e, N1, o1, l1, m1⟩ => ?_
 subst e
 refine Runs.step rfl (Runs.step rfl (Runs.ifT rfl (Runs.step rfl (Runs.step (seenAt rfl (asSl_v _)) (Runs.step rfl ?_)))))
 dsimp only
 refine Runs.new fun h2 b3 g2 => Runs.puts b3 rfl fun h3 b4 u3 => ?_
 have G3 : Grow h1 h3 := g2.updr (Nat.le_refl _) u3
 have E3 := E.grow (g1.trans G3)
 refine Runs.step (b4.rd 0 rfl (kc _ _)) (Runs.step (b4.rd 1 rfl (asSl_v _)) (Runs.step (E3.has2.rd 0 rfl (kc _ _)) (Runs.step (E3.has2.rd 1 rfl (asSl_v _)) ?_)))
 refine (kmu (N1.grow G3) E3.nats).call fun v h4 ⟨g4, n4, y4, w4, e4, he, N4, o4, hb⟩ => ?_
 subst he
 refine Runs.step rfl (Runs.step rfl (Runs.ifT rfl (Runs.step rfl (Runs.step (seenAt rfl (asSl_v _)) (Runs.step rfl ?_)))))
 dsimp only
 refine Runs.puts (g4.has b4) rfl fun h5 b5 u5 => Runs.step (b5.rd 0 rfl (kc _ _)) (Runs.step (b5.rd 1 rfl (asSl_v _)) ?_)
 have G5 : Grow h1 h5 := (G3.trans g4).updr (Nat.le_refl _) u5
 have G05 : Grow h h5 := g1.trans G5
 refine (kn7 (n := n4) (E.tab.grow G05) (N4.updr o4 b4.lt u5)).call fun v h6 ⟨g6, y6, j6, e, lj, V⟩ => ?_
 subst e
 refine Runs.step (seen (asSl_v _)) ?_
 refine H y6 j6 h6 (G05.trans g6) ?_
 rw [hb] at V
 have hids := (kca hR).1
 have hov : ∀ i, t.ids.length ≤ i → wbit w1 i = false := fun i hi => by
  rw [m1, decide_eq_false]
  intro hm
  unfold leftR at hm
  rw [List.mem_filter, List.mem_range] at hm
  omega
 have hR1 : btR (t.ids.length : Int) w1 = true := btR_of (by omega) (by omega) (by rw [Int.toNat_natCast]; exact l1) fun i _ hi => hov i (by rw [Int.toNat_natCast] at hi; exact hi)
 have hL1 : btL (t.ids.length : Int) w1 = leftR t f (c : Int) := by
  unfold btL
  rw [hR1, if_pos rfl, Int.toNat_natCast]
  unfold leftR
  apply List.filter_congr
  intro i hi
  rw [m1]
  unfold leftR
  rw [Bool.eq_iff_iff, decide_eq_true_eq, List.mem_filter]
  exact ⟨fun h => h.2, fun h => ⟨hi, h⟩⟩
 have : andL (t.ids.length : Int) w1 n w = rowsL t n w (f, c) := by
  unfold andL rowsL
  rw [hR1, hL1, Bool.true_and]
 rw [this] at V
 exact V
theorem knc {Inv : List (Nat × Nat) → AH → Prop} (hE : ∀ d h, Inv d h → EachOk S s1 s2 s3 s t n w b1 b2 h) (hG : ∀ d h h', Inv d h → Grow h h' → Inv d h') (hR : tabR t = true)
  (hround : ∀ (d : List (Nat × Nat)) (f c : Nat) (h : AH) (y : Sl) (j : Option Nat), f < t.cols.length → (c : Int) < t.bins.getD f 0 → d.length < 1000 → Inv d h → GF EI T.int h Fp.no y j (zs (rowsL t n w (f, c))) → Runs (go (.round l [.agg [.int .i64 (f : Int), .int .i64 (c : Int)], y.v]) h) fun v h' => v = .bool true ∧ Inv (d ++ [(f, c)]) h')
  {f : Nat} (hf : f < t.cols.length) {P : AV → AH → Prop} (hP : ∀ h, Inv (cutsTo t (f + 1)) h → Runs (go (.pt F.ku Td.kdq [(0, .func (.yield l) [] []), (1, .ptr (some (.new b1 0))), (2, .ptr (some (.new b2 0))), (10, s2.v), (11, .int .i64 (t.bins.length : Int)), (12, .int .i64 ((f + 1 : Nat) : Int))]) h) P) :
  ∀ (k c : Nat), c + k = nb t f → ∀ h, Inv (cutsTo t f ++ (List.range c).map fun c => (f, c)) h →
  Runs (go (.pt F.ku Td.kdn [(0, .func (.yield l) [] []), (1, .ptr (some (.new b1 0))), (2, .ptr (some (.new b2 0))), (4, .int .i64 (f : Int)), (10, s2.v), (11, .int .i64 (t.bins.length : Int)), (12, .int .i64 (f : Int)), (18, .int .i64 (nb t f : Int)), (19, .int .i64 (c : Int))]) h) P := by
 obtain ⟨hids, hcols, hbins, hall⟩ := kca hR
 obtain ⟨hb, hb2, hb32, hcl⟩ := kb8 (hall f hf) hf hbins
 have hgd : t.bins.getD f 0 = t.bins[f] := by simp [List.getD, hb]
 have hnb : (nb t f : Int) = t.bins[f] - 1 := by
  unfold nb
  rw [hgd]
  omega
 have hlen : (cutsTo t f).length ≤ 31 * f := kea t f fun i hi => by
  obtain ⟨hb', h2', h32', -⟩ := kb8 (hall i (by omega)) (by omega) hbins
  have : t.bins.getD i 0 = t.bins[i] := by simp [List.getD, hb']
  unfold nb
  rw [this]
  omega
 intro k
 induction k with
 | zero =>
  intro c hc h I
  obtain rfl : c = nb t f := by omega
  rw [← kgm] at I
  rw [kkh]
  refine Runs.ifF (decide_eq_false (by omega)) ?_
  rw [ki (by omega)]
  exact hP h I
 | succ k ih =>
  intro c hc h I
  rw [kkh]
  refine Runs.ifT (decide_eq_true (by omega)) ?_
  have hcb : (c : Int) < t.bins.getD f 0 := by rw [hgd]; omega
  refine kqm (hE _ _ I) hR hf hcb (K := fun y h' => (go (.round l [.agg [.int .i64 (f : Int), .int .i64 (c : Int)], y.v]) h').bind fun q36 => ((some q36.1).bind AV.asBool).bind fun b37 => cond (!b37) (some (.tup [], q36.2)) (go (.pt F.ku Td.kdn [(0, .func (.yield l) [] []), (1, .ptr (some (.new b1 0))), (2, .ptr (some (.new b2 0))), (4, .int .i64 (f : Int)), (10, s2.v), (11, .int .i64 (t.bins.length : Int)), (12, .int .i64 (f : Int)), (18, .int .i64 (nb t f : Int)), (19, .int .i64 (IntKind.wrap .i64 ((c : Int) + 1)))]) q36.2)) fun y j h1 g1 V => ?_
  refine (hround _ f c h1 y j hf hcb ?_ (hG _ _ _ I g1) V).call fun v h2 ⟨e, I2⟩ => ?_
  ·rw [List.length_append, List.length_map, List.length_range]
   omega
  subst e
  refine Runs.step (seen rfl) (Runs.ifF rfl ?_)
  rw [ki (by omega)]
  refine ih (c + 1) (by omega) h2 ?_
  rw [List.range_succ, List.map_append, ← List.append_assoc]
  exact I2
theorem kq9 {Inv : List (Nat × Nat) → AH → Prop} (hE : ∀ d h, Inv d h → EachOk S s1 s2 s3 s t n w b1 b2 h) (hG : ∀ d h h', Inv d h → Grow h h' → Inv d h') (hR : tabR t = true)
  (hround : ∀ (d : List (Nat × Nat)) (f c : Nat) (h : AH) (y : Sl) (j : Option Nat), f < t.cols.length → (c : Int) < t.bins.getD f 0 → d.length < 1000 → Inv d h → GF EI T.int h Fp.no y j (zs (rowsL t n w (f, c))) → Runs (go (.round l [.agg [.int .i64 (f : Int), .int .i64 (c : Int)], y.v]) h) fun v h' => v = .bool true ∧ Inv (d ++ [(f, c)]) h') :
  ∀ (k f : Nat), f + k = t.cols.length → ∀ h, Inv (cutsTo t f) h →
  Runs (go (.pt F.ku Td.kdq [(0, .func (.yield l) [] []), (1, .ptr (some (.new b1 0))), (2, .ptr (some (.new b2 0))), (10, s2.v), (11, .int .i64 (t.bins.length : Int)), (12, .int .i64 (f : Int))]) h) fun v h' => v = .tup [] ∧ Inv (cutsTo t t.cols.length) h' := by
 obtain ⟨hids, hcols, hbins, hall⟩ := kca hR
 intro k
 induction k with
 | zero =>
  intro f hf h I
  obtain rfl : f = t.cols.length := by omega
  rw [khl]
  exact Runs.ifF (decide_eq_false (by omega)) (Runs.ret ⟨rfl, I⟩)
 | succ k ih =>
  intro f hf h I
  have hf' : f < t.cols.length := by omega
  obtain ⟨hb, hb2, hb32, hcl⟩ := kb8 (hall f hf') hf' hbins
  obtain ⟨r, e1, e2⟩ := (hE _ _ I).at'.bins.int hb
  rw [(hE _ _ I).at'.bins.len] at e1
  rw [khl]
  refine Runs.ifT (decide_eq_true (by omega)) ?_
  rw [(hE _ _ I).at'.bins.len]
  refine Runs.step e1 (Runs.step e2 ?_)
  have hgd : t.bins.getD f 0 = t.bins[f] := by simp [List.getD, hb]
  rw [wrap64 (by omega) (by omega), show t.bins[f] - 1 = (nb t f : Int) from by unfold nb; rw [hgd]; omega]
  exact knc hE hG hR hround hf' (fun h I => ih (f + 1) (by omega) h I) (nb t f) 0 (by omega) h (by simpa using I)
theorem khy {Inv : List (Nat × Nat) → AH → Prop} (hE : ∀ d h, Inv d h → EachOk S s1 s2 s3 s t n w b1 b2 h) (hG : ∀ d h h', Inv d h → Grow h h' → Inv d h') (hR : tabR t = true)
  (hround : ∀ (d : List (Nat × Nat)) (f c : Nat) (h : AH) (y : Sl) (j : Option Nat), f < t.cols.length → (c : Int) < t.bins.getD f 0 → d.length < 1000 → Inv d h → GF EI T.int h Fp.no y j (zs (rowsL t n w (f, c))) → Runs (go (.round l [.agg [.int .i64 (f : Int), .int .i64 (c : Int)], y.v]) h) fun v h' => v = .bool true ∧ Inv (d ++ [(f, c)]) h') {h : AH} (I : Inv [] h) :
  Runs (go (.fn F.ku [.func (.yield l) [] [], .ptr (some (.new b1 0)), .ptr (some (.new b2 0))]) h) fun v h' => v = .tup [] ∧ Inv (cutsL t) h' := by
 rw [kpm]
 refine Runs.step ((hE _ _ I).has1.rd 1 rfl (asSl_v _)) ?_
 rw [(hE _ _ I).at'.bins.len]
 unfold cutsL
 rw [hR, if_pos rfl]
 exact kq9 hE hG hR hround t.cols.length 0 (by omega) h I
end
end Go.Ab

/- squeezed -/
set_option linter.unusedVariables false
set_option linter.unusedSimpArgs false
set_option maxRecDepth 10000
namespace Go.Ab
open Go.Proofs
@[reducible] def EP : Ef (Int × Int) := Ef.pair EI EI
def zc (l : List (Nat × Nat)) : List (Int × Int) := l.map fun p => ((p.1 : Int), (p.2 : Int))
theorem zc_len (l : List (Nat × Nat)) : (zc l).length = l.length := List.length_map _
theorem zc_app (l m : List (Nat × Nat)) : zc (l ++ m) = zc l ++ zc m := List.map_append
theorem kkf {n : Nat} (h : n ≤ 1000000) : growOk Pg n T.kr 2 = true := by
 unfold growOk
 rw [klo, kmf]
 have h1 : n * 16 ≤ kp := by simp only [kp]; omega
 have h2 : n * 2 ≤ kp := by simp only [kp]; omega
 have h3 : n ≤ kp := by simp only [kp]; omega
 simp [h1, h2, h3]
theorem EP.of {h : AH} {S : Fp} (a b : Int) : EP.has h S [.int .i64 a, .int .i64 b] (a, b) := ⟨[.int .i64 a], [.int .i64 b], rfl, rfl, rfl⟩
theorem Sq.two {h : AH} {S : Fp} {s : Sl} {xs : List (Int × Int)} (n : Sq EP h S s xs) {i : Nat} (hi : i < xs.length) : ∃ r : Ref, idx s.ref s.len (i : Int) 2 = some r ∧ (h.cell (r.add 0)).bind (AV.asInt .i64) = some xs[i].1 ∧ (h.cell (r.add 1)).bind (AV.asInt .i64) = some xs[i].2 := by
 obtain ⟨r, cs, e1, ⟨c1, c2, rfl, a1, a2⟩, l⟩ := n.at (kej hi)
 have a1 : c1 = [.int .i64 xs[i].1] := a1
 have a2 : c2 = [.int .i64 xs[i].2] := a2
 subst a1; subst a2
 rw [n.len]
 exact ⟨r, e1, l.rd (Grow.refl _) 0 rfl (kc _ _), l.rd (Grow.refl _) 1 rfl (kc _ _)⟩
structure Lp {α : Type} (E : Ef α) (elem tl : TypeId) (note : LoopState → ABlk) (hs : AH) (bo l : Nat) (xs : List α) (h : AH) : Prop where
 md : Md (fun m => m = bo ∨ m = l) hs h
 note : h.blks[l]? = some (note .ready)
 out : ∃ (t : Sl) (j : Option Nat), h.has bo [t.v] tl ∧ LeO hs.blks.size j ∧ GF E elem h Fp.no t j xs
section
variable {α : Type} {E : Ef α} {elem tl : TypeId} {note : LoopState → ABlk} {hs h : AH} {bo l : Nat} {xs : List α}
theorem Lp.grow {h' : AH} (L : Lp E elem tl note hs bo l xs h) (g : Grow h h') : Lp E elem tl note hs bo l xs h' :=
 ⟨L.md.thenG g, (g.blk l (Array.getElem?_eq_some_iff.1 L.note).1).trans L.note, L.out.imp fun _ ⟨j, B, lj, V⟩ => ⟨j, g.has B, lj, V.grow g⟩⟩
theorem kje {t : Sl} {j : Option Nat} {x : α} {cs : List AV} {k : Nat} {e' : TypeId} (B : h.has bo [t.v] tl) (hn : h.blks[l]? = some (note .busy)) (hbl : bo ≠ l) (hbs : bo < hs.blks.size) (hls : l < hs.blks.size) (hsh : hs.blks.size ≤ h.blks.size) (lj : LeO hs.blks.size j) (V : GF E elem h Fp.no t j xs) (hx : E.has h Fp.no cs x) (hg : growOk Pg (xs.length + 1) elem E.w = true) (bx : h.has k cs e') (hcs : 1 * Pg.cellsOf elem = cs.length) (hend : ∀ h', h'.blks[l]? = some (note .busy) → kbn l none h' = some (.bool true, h'.setBlk l (note .ready))) :
  Runs ((kba Pg elem ((⟨some (.new k 0), 1, .is 1⟩ : Sl).v) h).bind fun p => (kv Pg t p.1 p.2 elem E.w h).bind fun q => (AV.asSl q.1).bind fun l12 => (q.2.puts (.new bo 0) [l12.v]).bind fun h13 => kbn l none h13) fun v h' => v = .bool true ∧ Md (fun m => m = bo ∨ m = l ∨ j = some m) h h' ∧ h'.blks[l]? = some (note .ready) ∧ ∃ (t : Sl) (j : Option Nat), h'.has bo [t.v] tl ∧ LeO hs.blks.size j ∧ GF E elem h' Fp.no t j (xs ++ [x]) := by
 refine Runs.step (kc9 bx hcs) ?_
 obtain ⟨t', h3, e3, V3, u3⟩ := V.push (T := Fp.no) hx NotO.no hg
 refine Runs.step e3 (Runs.step (asSl_v _) ?_)
 have m3 : Md (Fp.opt j) h h3 := u3.md fun k e => e
 have no : ∀ {m : Nat}, m < hs.blks.size → ¬ Fp.opt j m := fun hm e => kbt hm lj _ e rfl
 have B3 : h3.has bo [t.v] tl := m3.has B (no hbs)
 have n3 : h3.blks[l]? = some (note .busy) := m3.get hn (no hls)
 refine Runs.puts B3 rfl fun h4 B4 u4 => ?_
 have n4 : h4.blks[l]? = some (note .busy) := (u4.blk l (fun e => hbl e.symm) (Array.getElem?_eq_some_iff.1 n3).1).trans n3
 rw [hend _ n4]
 have u5 : Upd h4 (h4.setBlk l (note .ready)) l := AH.setBlk_Upd _
 refine Runs.ret ⟨rfl, ?_, AH.setBlk_get (Array.getElem?_eq_some_iff.1 n4).1, t', some h.blks.size, B4.updr hbl u5, hsh, ?_⟩
 ·refine ((m3.mono fun m _ e => .inr (.inr e)).trans (u4.md (.inl rfl))).trans (u5.md (.inr (.inl rfl)))
 ·have V4 : GF E elem h3 Fp.no t' (some h.blks.size) (xs ++ [x]) := V3.mono (fun j x => x.1.elim id id) NotO.no
  exact (V4.upd u4 Fp.not_no fun k e => by cases e; omega).upd u5 Fp.not_no fun k e => by cases e; omega
theorem Lp.next {xs ys : List α} {h h1 h' : AH} {j : Option Nat} (m1 : Md (fun m => m = bo ∨ m = l) hs h1) (lj : LeO hs.blks.size j) (m2 : Md (fun m => m = bo ∨ m = l ∨ j = some m) h1 h') (hn : h'.blks[l]? = some (note .ready)) (o : ∃ (t : Sl) (j : Option Nat), h'.has bo [t.v] tl ∧ LeO hs.blks.size j ∧ GF E elem h' Fp.no t j ys) : Lp E elem tl note hs bo l ys h' :=
 ⟨m1.next m2 fun m hm t => t.elim .inl fun t => t.elim .inr fun e => absurd rfl (kbt hm lj _ e), hn, o⟩
end
theorem EachOk.md {S T : Fp} {s1 s2 s3 s : Sl} {t : Tb} {n : Int} {w : List Nat} {b1 b2 : Nat} {h h' : AH} (e : EachOk S s1 s2 s3 s t n w b1 b2 h) (m : Md T h h') (d : Dis S T) (dn : ∀ j, ¬ Av s j w → S j) (n1 : ¬ T b1) (n2 : ¬ T b2) : EachOk S s1 s2 s3 s t n w b1 b2 h' :=
 ⟨e.tab.md m, e.at'.md m d, e.nats.mdE dn m d, m.has e.has1 n1, m.has e.has2 n2⟩
theorem TabAt.bound {h : AH} {S : Fp} {s1 s2 s3 : Sl} {t : Tb} (n : TabAt h S s1 s2 s3 t) : TabAt h (Fp.below h.blks.size) s1 s2 s3 t :=
 ⟨n.ids.bound.mono fun _ x => x.2, n.bins.bound.mono fun _ x => x.2, n.cols.bound.mono fun _ x => x.2⟩
noncomputable def cNote (s1 s2 s3 : Sl) (b bo : Nat) (g : AV) (st : LoopState) : ABlk := kbr Fx.kgy F.kbs 0 st none [(0, .agg [s1.v, s2.v, s3.v]), (1, .ptr (some (.new b 0))), (2, (⟨none, 0, .is 0⟩ : Sl).v), (3, .ptr (some (.new bo 0))), (5, .agg [s1.v, s2.v, s3.v]), (6, .bool true), (7, .agg [s1.v, s2.v, s3.v]), (8, .agg [.int .i64 0, (⟨none, 0, .is 0⟩ : Sl).v]), (9, g)]
section
variable {h0 : AH} {S : Fp} {s1 s2 s3 : Sl} {t : Tb}
theorem kmc {hs h : AH} {b bo l : Nat} {g : AV} {d : List (Nat × Nat)} {f c : Nat} {y : Sl} (hbl : bo ≠ l) (hbs : bo < hs.blks.size) (hls : l < hs.blks.size) (hd : d.length < 1000) (I : Lp EP T.kr T.kda (cNote s1 s2 s3 b bo g) hs bo l (zc d) h) : Runs (go (.round l [.agg [.int .i64 (f : Int), .int .i64 (c : Int)], y.v]) h) fun v h' => v = .bool true ∧ Lp EP T.kr T.kda (cNote s1 s2 s3 b bo g) hs bo l (zc (d ++ [(f, c)])) h' := by
 obtain ⟨M, hn, t, j, B, lj, V⟩ := I
 rw [kk3 l none _ _ _ _ _ _ _ _ _ _ _ _ _ _ _ _ _ _ _ _ hn]
 refine Runs.new fun h1 b1 g1 => Runs.puts b1 rfl fun h2 b2 u2 => ?_
 have G2 : Grow h h2 := g1.updr (Nat.le_refl _) u2
 have n2 : h2.blks[l]? = some (cNote s1 s2 s3 b bo g .ready) := (G2.blk l (Array.getElem?_eq_some_iff.1 hn).1).trans hn
 rw [kf6 (h := h2) n2, Option.bind_some]
 generalize hq : h2.setBlk l _ = h3
 have u3 : Upd h2 h3 l := by rw [← hq]; exact AH.setBlk_Upd _
 have n3 : h3.blks[l]? = some (cNote s1 s2 s3 b bo g .busy) := by rw [← hq]; exact AH.setBlk_get (Array.getElem?_eq_some_iff.1 n2).1
 have hsz := M.size
 have hll : l < h.blks.size := by omega
 have B3 : h3.has bo [t.v] T.kda := (G2.has B).updr hbl u3
 have V3 : GF EP T.kr h3 Fp.no t j (zc d) := (V.grow G2).upd u3 Fp.not_no (kbt hls lj)
 have b3 : h3.has h.blks.size [.int .i64 (f : Int), .int .i64 (c : Int)] T.kr := b2.updr (by omega) u3
 refine Runs.step (B3.rd0 rfl (asSl_v _)) (Runs.step (b3.rd 0 rfl (kc _ _)) (Runs.step (b3.rd 1 rfl (kc _ _)) ?_))
 refine Runs.new fun h4 b4 g4 => ?_
 have n4 := (g4.blk l (Array.getElem?_eq_some_iff.1 n3).1).trans n3
 have m4 : Md (fun m => m = bo ∨ m = l) hs h4 := ((M.thenG G2).trans (u3.md (.inr rfl))).thenG g4
 have := kje (note := cNote s1 s2 s3 b bo g) (hs := hs) (E := EP) (x := ((f : Int), (c : Int))) (g4.has B3) n4 hbl hbs hls m4.size lj (V3.grow g4) (EP.of _ _) (kkf (by rw [zc_len]; omega)) b4 (by rw [khf]; rfl) (fun h' hn' => by rw [kf5 hn']; rfl)
 refine this.imp fun v h' ⟨e, m5, n5, o5⟩ => ⟨e, ?_⟩
 rw [zc_app]
 exact Lp.next (h := h) (xs := zc d) m4 lj m5 n5 o5
theorem kpz (T0 : Tab h0) (q : TabAt h0 S s1 s2 s3 t) : Runs (go (.fn F.kbs [.agg [s1.v, s2.v, s3.v]]) h0) fun v h' => Grow h0 h' ∧ ∃ (y : Sl) (j : Option Nat), v = y.v ∧ LeO h0.blks.size j ∧ GF EP T.kr h' Fp.no y j (zc (cutsL t)) := by
 rw [kne]
 refine Runs.new fun h1 b1 g1 => Runs.new fun h2 b2 g2 => ?_
 have B1 := g2.has b1
 have z1 := b1.lt
 have z2 := b2.lt
 refine Runs.step (B1.rd 0 rfl (asSl_v _)) (Runs.step (B1.rd 1 rfl (asSl_v _)) (Runs.step (B1.rd 2 rfl (asSl_v _)) ?_))
 refine (kfy (q.grow (g1.trans g2))).call fun v h3 ⟨e, g3⟩ => ?_
 subst e
 refine Runs.step (seen rfl) ?_
 have G3 : Grow h0 h3 := (g1.trans g2).trans g3
 have B1' := g3.has B1
 cases hR : tabR t with
 | false =>
  refine Runs.ifF rfl (Runs.step ((g3.has b2).rd0 rfl (asSl_v _)) (Runs.ret ⟨G3, _, none, rfl, trivial, ?_⟩))
  unfold cutsL
  rw [hR]
  exact GF.none _ _ _ _
 | true =>
  refine Runs.ifT rfl (Runs.step (B1'.rd 0 rfl (asSl_v _)) (Runs.step (B1'.rd 1 rfl (asSl_v _)) (Runs.step (B1'.rd 2 rfl (asSl_v _)) ?_)))
  have k0 : Runs (go (.fn F.kdx [.agg [s1.v, s2.v, s3.v], .agg [.int .i64 0, (⟨none, 0, .is 0⟩ : Sl).v]]) h3) fun v h' => ∃ c1 c2 : Nat, v = .func (.func F.ku) [] [.ptr (some (.new c1 0)), .ptr (some (.new c2 0))] ∧ h3.blks.size ≤ c1 ∧ h3.blks.size ≤ c2 ∧ h'.has c1 [s1.v, s2.v, s3.v] T.kj ∧ h'.has c2 [.int .i64 0, (⟨none, 0, .is 0⟩ : Sl).v] T.kf ∧ Grow h3 h' := by
   rw [kh4]
   exact Runs.new fun h4 b4 g4 => Runs.new fun h5 b5 g5 => Runs.ret ⟨_, _, rfl, Nat.le_refl _, g4.size, g5.has b4, b5, g4.trans g5⟩
  refine k0.call fun v h4 ⟨c1, c2, e, l1, l2, d1, d2, g4⟩ => ?_
  subst e
  dsimp only
  rw [kmy, kgr]
  refine Runs.newM fun h5 hb g5 => ?_
  rw [khc]
  generalize hgv : (AV.func (.func F.ku) [] [AV.ptr (some (Ref.new c1 0)), AV.ptr (some (Ref.new c2 0))]) = gv at hb
  have G5 : Grow h0 h5 := (G3.trans g4).trans g5
  have z3 := g3.size
  have z4 := d1.lt
  have z5 := d2.lt
  have z6 : h4.blks.size < h5.blks.size := (Array.getElem?_eq_some_iff.1 hb).1
  have E5 : EachOk (Fp.below h0.blks.size) s1 s2 s3 ⟨none, 0, .is 0⟩ t 0 [] c1 c2 h5 := ⟨T0.grow G5, q.bound.grow G5, Nats.nil _, g5.has d1, g5.has d2⟩
  have I0 : Lp EP T.kr T.kda (cNote s1 s2 s3 h0.blks.size h1.blks.size gv) h5 h1.blks.size h4.blks.size (zc []) h5 := ⟨Md.refl _ _, hb, _, none, g5.has (g4.has (g3.has b2)), trivial, GF.none _ _ _ _⟩
  have k1 := khy (l := h4.blks.size) (Inv := fun d h => Lp EP T.kr T.kda (cNote s1 s2 s3 h0.blks.size h1.blks.size gv) h5 h1.blks.size h4.blks.size (zc d) h) (fun d h I => E5.md I.md (fun j a b => by have a : j < h0.blks.size := a; rcases b with rfl | rfl <;> omega) (fun j hj => absurd (.inl rfl) hj) (by omega) (by omega)) (fun d h h' I g => I.grow g) hR (fun d f c h y j hf hc hd I V => kmc (by omega) (by omega) (by omega) hd I) I0
  show Runs ((go (.fn F.ku [.func (.yield h4.blks.size) [] [], .ptr (some (.new c1 0)), .ptr (some (.new c2 0))]) h5).bind _) _
  refine k1.call fun v h6 ⟨e, I⟩ => ?_
  obtain ⟨M, hn, t', j, B, lj, V⟩ := I
  dsimp only
  rw [kgj hn, Option.bind_some, kk0]
  have u7 : Upd h6 (h6.setBlk h4.blks.size .dead) h4.blks.size := AH.setBlk_Upd _
  have z7 := M.size
  have G6 : Grow h0 h6 := (G5.thenM M).grow fun j hj => by intro k; rcases k with rfl | rfl <;> omega
  refine Runs.step ((B.updr (by omega) u7).rd0 rfl (asSl_v _)) (Runs.ret ⟨G6.updr (by omega) u7, t', j, rfl, LeO.trans (by omega) lj, ?_⟩)
  exact V.upd u7 Fp.not_no (kbt (by omega) lj)
end
end Go.Ab

/- squeezed -/
set_option linter.unusedVariables false
set_option linter.unusedSimpArgs false
set_option maxRecDepth 10000
namespace Go.Ab
open Go.Proofs
def faultH (t : Tb) (n : Int) (w : List Nat) (m : Int) : Int := if !tabR t then 20 else if !btR n w then 1 else if !decide (n = (t.ids.length : Int)) then 1 else if !decide (m = (t.ids.length : Int)) then 1 else 0
theorem kjq {t : Tb} {n : Int} {w : List Nat} {m : Int} (h : faultH t n w m = 0) : tabR t = true ∧ btR n w = true ∧ n = (t.ids.length : Int) ∧ m = (t.ids.length : Int) := by
 unfold faultH at h
 grind
def sumG (g : List Int) (l : List Nat) (a : Int) : Int := l.foldl (fun a i => IntKind.wrap .i64 (a + g.getD i 0)) a
def sumsL (g : List Int) (R : Nat × Nat → List Nat) (l : List (Nat × Nat)) : List (Int × Int) := l.map fun p => (sumG g (R p) 0, ((R p).length : Int))
theorem kjk {n : Nat} (h : n ≤ 1000000) : growOk Pg n T.kn 2 = true := by
 unfold growOk
 rw [kp8, kqn]
 have h1 : n * 16 ≤ kp := by simp only [kp]; omega
 have h2 : n * 2 ≤ kp := by simp only [kp]; omega
 have h3 : n ≤ kp := by simp only [kp]; omega
 simp [h1, h2, h3]
theorem knu {t : Tb} {n : Int} {w : List Nat} {p : Nat × Nat} : ∀ x ∈ rowsL t n w p, x < t.ids.length := by
 intro x hx
 unfold rowsL at hx
 split at hx
 ·rw [List.mem_filter] at hx
  have := hx.1
  unfold leftR at this
  rw [List.mem_filter, List.mem_range] at this
  exact this.1
 ·simp at hx
theorem knt {t : Tb} {n : Int} {w : List Nat} {p : Nat × Nat} : (rowsL t n w p).length ≤ t.ids.length := by
 unfold rowsL
 split
 ·refine Nat.le_trans (List.length_filter_le _ _) ?_
  unfold leftR
  exact Nat.le_trans (List.length_filter_le _ _) (by simp)
 ·simp
section
variable {h0 : AH} {S : Fp} {s1 s2 s3 s u : Sl} {t : Tb} {n : Int} {w : List Nat} {g : List Int}
theorem kmr (q : TabAt h0 S s1 s2 s3 t) (N : Nats h0 s w) {m : Int} : Runs (go (.fn F.kgk [.agg [s1.v, s2.v, s3.v], .agg [.int .i64 n, s.v], .int .i64 m]) h0) fun v h' => v = .int .i64 (faultH t n w m) ∧ Grow h0 h' := by
 rw [kk6]
 refine Runs.new fun h1 b1 g1 => Runs.new fun h2 b2 g2 => ?_
 have B1 := g2.has b1
 have G2 := g1.trans g2
 refine Runs.step (B1.rd 0 rfl (asSl_v _)) (Runs.step (B1.rd 1 rfl (asSl_v _)) (Runs.step (B1.rd 2 rfl (asSl_v _)) ?_))
 refine (kfy (q.grow G2)).call fun v h3 ⟨e, g3⟩ => ?_
 subst e
 unfold faultH
 refine Runs.step (seen rfl) (Runs.cond (fun c => Runs.ret ⟨by rw [if_pos c], G2.trans g3⟩) fun c => ?_)
 rw [if_neg (by rw [c]; simp)]
 refine Runs.step ((g3.has b2).rd 0 rfl (kc _ _)) (Runs.step ((g3.has b2).rd 1 rfl (asSl_v _)) ?_)
 refine (keo (N.grow (G2.trans g3))).call fun v h4 ⟨e, g4⟩ => ?_
 subst e
 have G4 := (G2.trans g3).trans g4
 have b2' := g4.has (g3.has b2)
 have B1' := g4.has (g3.has B1)
 refine Runs.step (seen rfl) (Runs.cond (fun c => Runs.ret ⟨by rw [if_pos c], G4⟩) fun c => ?_)
 rw [if_neg (by rw [c]; simp)]
 refine Runs.step (b2'.rd 0 rfl (kc _ _)) (Runs.step (B1'.rd 0 rfl (asSl_v _)) ?_)
 rw [q.ids.len]
 refine Runs.cond (fun c => Runs.ret ⟨by rw [if_pos c], G4⟩) fun c => ?_
 rw [if_neg (by rw [c]; simp)]
 refine Runs.step (B1'.rd 0 rfl (asSl_v _)) ?_
 rw [q.ids.len]
 refine Runs.cond (fun c => Runs.ret ⟨by rw [if_pos c], G4⟩) fun c => ?_
 rw [if_neg (by rw [c]; simp)]
 exact Runs.ret ⟨rfl, G4⟩
theorem klk (q : Sq EI h0 S u g) : Runs (go (.fn F.kbi [u.v, .func (.func F.kbf) [] []]) h0) fun v h' => v = .bool (g.any fun x => decide (x < -1048576) || decide (x > 1048576)) ∧ Grow h0 h' := by
 rw [ko8]
 refine Runs.contains (xs := g) ?_
 rw [kn6, q.len]
 refine keg (n := g.length) (G := fun z h => go (.pt F.kq Td.kz [(0, u.v), (1, .func (.func F.kbf) [] []), (7, .int .i64 (g.length : Int)), (8, .int .i64 z)]) h) (fun i h P hi gg hT hF => ?_) (fun h gg => ?_) g.length 0 (by omega) (Grow.refl h0) (fun j hj => by omega)
 ·obtain ⟨r, e1, e2⟩ := (q.grow gg).int hi
  rw [List.getElem?_eq_getElem hi] at hT hF
  simp only [Option.any_some] at hT hF
  show Runs (go _ _) _
  rw [kjz]
  refine Runs.ifT (decide_eq_true (by omega)) (Runs.step e1 (Runs.step e2 ?_))
  have key : go (.fn F.kbf [.int .i64 g[i]]) h = some (.bool (decide (g[i] < -1048576) || decide (g[i] > 1048576)), h) := by
   rw [kk5]
   cases decide (g[i] < -1048576) <;> rfl
  refine Runs.step key (Runs.step (seen rfl) ?_)
  rw [ki (by have := q.short; omega)]
  exact Runs.cond (fun c => Runs.ret (hT h gg c)) fun c => hF _ gg c
 ·rw [kjz, condF (decide_eq_false (by omega))]
noncomputable def pNote (s1 s2 s3 : Sl) (n : Int) (s u : Sl) (m : Int) (b1 b2 b3 bo : Nat) (g : AV) (st : LoopState) : ABlk := kbr Fx.kgn F.k6 0 st none [(0, .agg [s1.v, s2.v, s3.v]), (1, .agg [.int .i64 n, s.v]), (2, u.v), (3, .ptr (some (.new b1 0))), (4, .ptr (some (.new b2 0))), (5, .ptr (some (.new b3 0))), (6, (⟨none, 0, .is 0⟩ : Sl).v), (7, .int .i64 0), (8, .int .i64 0), (9, .ptr (some (.new bo 0))), (15, .agg [s1.v, s2.v, s3.v]), (16, .agg [.int .i64 n, s.v]), (17, u.v), (18, .int .i64 m), (19, .int .i64 0), (20, .int .i64 0), (21, .bool false), (23, u.v), (24, .bool false), (25, .agg [s1.v, s2.v, s3.v]), (26, .agg [.int .i64 n, s.v]), (27, g)]
theorem km8 {note : LoopState → ABlk} {hs : AH} {b3 bo l bx : Nat} {x4 y : Sl} {j jo : Option Nat} {e3 : TypeId} {R : List Nat} {xs : List (Int × Int)} {to : Sl} (hbl : bo ≠ l) (hbs : bo < hs.blks.size) (hls : l < hs.blks.size) (h3 : b3 < hs.blks.size) (hx : hs.blks.size ≤ bx) (ljo : LeO hs.blks.size jo) (hjx : ∀ k, jo = some k → k ≠ bx) (hlt : ∀ x ∈ R, x < g.length) (hR : R.length ≤ 300) (hxs : xs.length < 1000)
  (hend : ∀ h', h'.blks[l]? = some (note .busy) → kbn l none h' = some (.bool true, h'.setBlk l (note .ready))) : ∀ (k i : Nat), i + k = R.length → ∀ (h : AH) (a : Int), hs.blks.size ≤ h.blks.size → (∀ k, j = some k → k ≠ bx) → GF EI T.int h Fp.no y j (zs R) → h.has b3 [u.v] e3 → (∃ S : Fp, ¬ S bx ∧ Sq EI h S u g) → h.has bx [.int .i64 a, .int .i64 (R.length : Int)] T.kn → h.blks[l]? = some (note .busy) → h.has bo [to.v] T.kcl → GF EP T.kn h Fp.no to jo xs →
  Runs (go (.rpt l F.k6 Td.kfi [(5, .ptr (some (.new b3 0))), (6, x4.v), (7, .int .i64 0), (9, .ptr (some (.new bo 0))), (12, .ptr (some (.new bx 0))), (33, y.v), (34, .int .i64 (R.length : Int)), (35, .int .i64 (i : Int))]) h) fun v h' => v = .bool true ∧ Md (fun m => m = bo ∨ m = l ∨ jo = some m ∨ m = bx) h h' ∧ h'.blks[l]? = some (note .ready) ∧ ∃ (t : Sl) (j : Option Nat), h'.has bo [t.v] T.kcl ∧ LeO hs.blks.size j ∧ GF EP T.kn h' Fp.no t j (xs ++ [(sumG g (R.drop i) a, (R.length : Int))]) := by
 intro k
 induction k with
 | zero =>
  intro i hi h a hsh hj V B3 Q Bx hn Bo Vo
  rw [kj6]
  refine Runs.ifF (decide_eq_false (by omega)) (Runs.step (Bo.rd0 rfl (asSl_v _)) (Runs.step (Bx.rd 0 rfl (kc _ _)) (Runs.step (Bx.rd 1 rfl (kc _ _)) ?_)))
  refine Runs.new fun h1 b1 g1 => ?_
  have n1 := (g1.blk l (Array.getElem?_eq_some_iff.1 hn).1).trans hn
  have := kje (note := note) (hs := hs) (E := EP) (x := (a, (R.length : Int))) (g1.has Bo) n1 hbl hbs hls (Nat.le_trans hsh g1.size) ljo (Vo.grow g1) (EP.of _ _) (kjk (by omega)) b1 (by rw [kig]; rfl) hend
  refine this.imp fun v h' ⟨e, m5, n5, o5⟩ => ⟨e, (g1.thenM m5).mono fun m _ x => by rcases x with x | x | x <;> simp [x], n5, ?_⟩
  rw [List.drop_eq_nil_of_le (by omega)]
  exact o5
 | succ k ih =>
  intro i hi h a hsh hj V B3 ⟨S, hS, Q⟩ Bx hn Bo Vo
  have hi' : i < R.length := by omega
  have hz : i < (zs R).length := by rw [zs_len]; exact hi'
  obtain ⟨r, e1, e2⟩ := V.sq.int hz
  have hx' : (zs R)[i] = ((R[i] : Nat) : Int) := by simp [zs]
  have hg := hlt _ (List.getElem_mem hi')
  obtain ⟨r2, e4, e5⟩ := Q.int hg
  rw [kj6]
  refine Runs.ifT (decide_eq_true (by omega)) (Runs.step e1 (Runs.step e2 (Runs.step (Bx.rd 0 rfl (kc _ _)) (Runs.step (B3.rd0 rfl (asSl_v _)) ?_))))
  rw [hx']
  refine Runs.step e4 (Runs.step e5 ?_)
  refine Runs.putAt (o := 0) Bx (by simp) (cs' := [.int .i64 (IntKind.wrap .i64 (a + g[R[i]])), .int .i64 (R.length : Int)]) rfl fun h1 Bx1 u1 => ?_
  rw [ki (by omega)]
  have := ih (i + 1) (by omega) h1 (IntKind.wrap .i64 (a + g[R[i]])) (Nat.le_trans hsh u1.size) hj (V.upd u1 Fp.not_no hj) (B3.updr (by omega) u1) ⟨S, hS, Q.upd hS u1⟩ Bx1 ((u1.blk l (by omega) (Array.getElem?_eq_some_iff.1 hn).1).trans hn) (Bo.updr (by omega) u1) (Vo.upd u1 Fp.not_no hjx)
  refine this.imp fun v h' ⟨e, m, n', o⟩ => ⟨e, (u1.md (.inr (.inr (.inr rfl)))).trans m, n', ?_⟩
  have hd : R.drop i = R[i] :: R.drop (i + 1) := List.drop_eq_getElem_cons hi'
  rw [hd]
  unfold sumG at o ⊢
  rw [List.foldl_cons]
  have : g.getD R[i] 0 = g[R[i]] := by simp [List.getD, hg]
  rw [this]
  exact o
end
end Go.Ab

/- squeezed -/
set_option linter.unusedVariables false
set_option linter.unusedSimpArgs false
set_option maxRecDepth 10000
namespace Go.Ab
open Go.Proofs
def oddG (g : List Int) : Bool := g.any fun x => decide (x < -1048576) || decide (x > 1048576)
def plainH (t : Tb) (n : Int) (w : List Nat) (g : List Int) : List (Int × Int) × Int := if faultH t n w (g.length : Int) = 0 then if oddG g then ([], 1) else (sumsL g (rowsL t n w) (cutsL t), 0) else ([], faultH t n w (g.length : Int))
section
variable {h0 : AH} {S : Fp} {s1 s2 s3 s u : Sl} {t : Tb} {n : Int} {w : List Nat} {g : List Int}
theorem koq {hs h : AH} {b1 b2 b3 bo l : Nat} {gv : AV} {m : Int} {d : List (Nat × Nat)} {f c : Nat} {y : Sl} {j : Option Nat} (hbl : bo ≠ l) (hbs : bo < hs.blks.size) (hls : l < hs.blks.size) (h3 : b3 < hs.blks.size) (h3o : b3 ≠ bo) (h3l : b3 ≠ l) (hd : d.length < 1000) (hb : g.length = t.ids.length) (hids : t.ids.length ≤ 256) (B3 : hs.has b3 [u.v] T.k5) {N0 : Nat} (hN0 : N0 ≤ bo) (hNl : N0 ≤ l) (hNs : N0 ≤ hs.blks.size) (Q : Sq EI hs (Fp.below N0) u g)
  (I : Lp EP T.kn T.kcl (pNote s1 s2 s3 n s u m b1 b2 b3 bo gv) hs bo l (sumsL g (rowsL t n w) d) h) (V : GF EI T.int h Fp.no y j (zs (rowsL t n w (f, c)))) : Runs (go (.round l [.agg [.int .i64 (f : Int), .int .i64 (c : Int)], y.v]) h) fun v h' => v = .bool true ∧ Lp EP T.kn T.kcl (pNote s1 s2 s3 n s u m b1 b2 b3 bo gv) hs bo l (sumsL g (rowsL t n w) (d ++ [(f, c)])) h' := by
 obtain ⟨M, hn, to, jo, Bo, ljo, Vo⟩ := I
 have hll : l < h.blks.size := (Array.getElem?_eq_some_iff.1 hn).1
 have hsz := M.size
 have B3h : h.has b3 [u.v] T.k5 := M.has B3 (by omega)
 have Qh : Sq EI h (Fp.below N0) u g := Q.md M fun k a b => by
  have a : k < N0 := a
  rcases b with rfl | rfl <;> omega
 rw [klj l none _ _ _ _ _ _ _ _ _ _ _ _ _ _ _ _ _ _ _ _ _ _ _ _ _ _ _ _ _ _ _ _ _ _ hn, kf6 (h := h) hn, Option.bind_some]
 generalize hq : h.setBlk l _ = h1
 have u1 : Upd h h1 l := by rw [← hq]; exact AH.setBlk_Upd _
 have n1 : h1.blks[l]? = some (pNote s1 s2 s3 n s u m b1 b2 b3 bo gv .busy) := by rw [← hq]; exact AH.setBlk_get hll
 have V1lt : LtO h.blks.size j := V.lt
 refine Runs.new fun h2 b2' g2 => Runs.puts b2' rfl fun h3' b3' u3 => ?_
 have hu1 := u1.size
 have G13 : Grow h1 h3' := g2.updr (Nat.le_refl _) u3
 have hjl : ∀ k, j = some k → k ≠ h1.blks.size := fun k e => by
  subst e
  have : k < h.blks.size := V1lt
  omega
 have Vol := Vo.lt
 have hjo : ∀ k, jo = some k → k ≠ h1.blks.size := fun k e => by
  subst e
  have : k < h.blks.size := Vol
  omega
 by_cases hyl : j = some l
 ·subst hyl
  exfalso
  obtain ⟨_, _, _, _, rows, e, b, _⟩ := V
  rw [AH.has, hn] at b
  unfold pNote kbr at b
  cases b
 have V3 : GF EI T.int h3' Fp.no y j (zs (rowsL t n w (f, c))) := (V.upd u1 Fp.not_no fun k e e2 => hyl (by rw [e, e2])).grow G13
 have Vo3 : GF EP T.kn h3' Fp.no to jo (sumsL g (rowsL t n w) d) := (Vo.upd u1 Fp.not_no (kbt hls ljo)).grow G13
 rw [V.len, zs_len]
 rw [V.len, zs_len] at b3'
 have := km8 (g := g) (note := pNote s1 s2 s3 n s u m b1 b2 b3 bo gv) (hs := hs) (x4 := ⟨none, 0, .is 0⟩) (e3 := T.k5) (R := rowsL t n w (f, c)) (xs := sumsL g (rowsL t n w) d) hbl hbs hls h3 (show hs.blks.size ≤ h1.blks.size by omega) ljo hjo (fun x hx => by rw [hb]; exact knu x hx) (by have := knt (t := t) (n := n) (w := w) (p := (f, c)); omega) (by unfold sumsL; rw [List.length_map]; exact hd) (fun h' hn' => by rw [kf5 hn']; rfl) (rowsL t n w (f, c)).length 0 (by omega) h3' 0 (by have := G13.size; omega) hjl V3 (G13.has (B3h.updr h3l u1)) ⟨Fp.below N0, by intro k; have k : h1.blks.size < N0 := k; omega, (Qh.upd (by intro k; have k : l < N0 := k; omega) u1).grow G13⟩ b3' ((G13.blk l (Array.getElem?_eq_some_iff.1 n1).1).trans n1) (G13.has (Bo.updr hbl u1)) Vo3
 refine this.imp fun v h' ⟨e, m5, n5, o5⟩ => ⟨e, ?_⟩
 have hsum : sumsL g (rowsL t n w) (d ++ [(f, c)]) = sumsL g (rowsL t n w) d ++ [(sumG g ((rowsL t n w (f, c)).drop 0) 0, ((rowsL t n w (f, c)).length : Int))] := by
  unfold sumsL
  rw [List.map_append, List.drop_zero]
  rfl
 rw [hsum]
 refine ⟨?_, n5, o5⟩
 have m4 : Md (fun m => m = bo ∨ m = l) hs h3' := (M.trans (u1.md (.inr rfl))).thenG G13
 refine m4.next m5 fun k hk x => ?_
 rcases x with x | x | x | x
 ·exact .inl x
 ·exact .inr x
 ·exact absurd rfl (kbt hk ljo _ x)
 ·omega
theorem kji (T0 : Tab h0) (q : TabAt h0 S s1 s2 s3 t) (N : Nats h0 s w) (Q : Sq EI h0 S u g) : Runs (go (.fn F.k6 [.agg [s1.v, s2.v, s3.v], .agg [.int .i64 n, s.v], u.v]) h0) fun v h' => Grow h0 h' ∧ ∃ (y : Sl) (j : Option Nat), v = .tup [y.v, .int .i64 (plainH t n w g).2] ∧ LeO h0.blks.size j ∧ GF EP T.kn h' Fp.no y j (plainH t n w g).1 := by
 rw [kmt]
 refine Runs.new fun h1 b1 g1 => Runs.new fun h2 b2 g2 => Runs.new fun h3 b3 g3 => ?_
 have B1 := g3.has (g2.has b1)
 have B2 := g3.has b2
 have z1 := b1.lt
 have z2 := b2.lt
 have z3 := b3.lt
 have G3 : Grow h0 h3 := (g1.trans g2).trans g3
 refine Runs.step (B1.rd 0 rfl (asSl_v _)) (Runs.step (B1.rd 1 rfl (asSl_v _)) (Runs.step (B1.rd 2 rfl (asSl_v _)) (Runs.step (B2.rd 0 rfl (kc _ _)) (Runs.step (B2.rd 1 rfl (asSl_v _)) (Runs.step (b3.rd0 rfl (asSl_v _)) ?_)))))
 rw [Q.len]
 refine (kmr (q.grow G3) (N.grow G3)).call fun v h4 ⟨e, g4⟩ => ?_
 subst e
 refine Runs.step (seen rfl) ?_
 have G4 := G3.trans g4
 refine Runs.cond (fun c => ?_) fun c => ?_
 ·rw [Bool.not_eq_true', decide_eq_false_iff_not] at c
  refine Runs.ret ⟨G4, (⟨none, 0, .is 0⟩ : Sl), none, ?_, trivial, ?_⟩
  ·unfold plainH
   rw [if_neg c]
  ·unfold plainH
   rw [if_neg c]
   exact GF.none _ _ _ _
 rw [Bool.not_eq_false', decide_eq_true_eq] at c
 obtain ⟨hR, hR2, hn, hm⟩ := kjq c
 rw [c]
 refine Runs.step ((g4.has b3).rd0 rfl (asSl_v _)) ?_
 refine (klk (Q.grow G4)).call fun v h5 ⟨e, g5⟩ => ?_
 subst e
 have G5 := G4.trans g5
 refine Runs.step (seen rfl) (Runs.cond (fun c2 => ?_) fun c2 => ?_)
 ·refine Runs.ret ⟨G5, (⟨none, 0, .is 0⟩ : Sl), none, ?_, trivial, ?_⟩
  ·unfold plainH
   rw [if_pos c, if_pos (show oddG g = true from c2)]
  ·unfold plainH
   rw [if_pos c, if_pos (show oddG g = true from c2)]
   exact GF.none _ _ _ _
 have hpl : plainH t n w g = (sumsL g (rowsL t n w) (cutsL t), 0) := by
  unfold plainH
  rw [if_pos c, if_neg (by rw [show oddG g = false from c2]; simp)]
 rw [hpl]
 have g35 := g4.trans g5
 dsimp only
 refine Runs.new fun h6 b6 g6 => ?_
 have g36 := g35.trans g6
 have B1' := g36.has B1
 have B2' := g36.has B2
 have z4 := g35.size
 have z6 := b6.lt
 refine Runs.step (B1'.rd 0 rfl (asSl_v _)) (Runs.step (B1'.rd 1 rfl (asSl_v _)) (Runs.step (B1'.rd 2 rfl (asSl_v _)) (Runs.step (B2'.rd 0 rfl (kc _ _)) (Runs.step (B2'.rd 1 rfl (asSl_v _)) ?_))))
 have k0 : Runs (go (.fn F.kdx [.agg [s1.v, s2.v, s3.v], .agg [.int .i64 n, s.v]]) h6) fun v h' => ∃ c1 c2 : Nat, v = .func (.func F.ku) [] [.ptr (some (.new c1 0)), .ptr (some (.new c2 0))] ∧ h6.blks.size ≤ c1 ∧ h6.blks.size ≤ c2 ∧ h'.has c1 [s1.v, s2.v, s3.v] T.kj ∧ h'.has c2 [.int .i64 n, s.v] T.kf ∧ Grow h6 h' := by
  rw [kh4]
  exact Runs.new fun h4 b4 g4 => Runs.new fun h5 b5 g5 => Runs.ret ⟨_, _, rfl, Nat.le_refl _, g4.size, g5.has b4, b5, g4.trans g5⟩
 refine k0.call fun v h7 ⟨c1, c2', e, l1, l2, d1, d2, g7⟩ => ?_
 subst e
 dsimp only
 rw [kk2, kgr]
 refine Runs.newM fun h8 hb g8 => ?_
 rw [khc]
 generalize hgv : (AV.func (.func F.ku) [] [AV.ptr (some (Ref.new c1 0)), AV.ptr (some (Ref.new c2' 0))]) = gv at hb
 have g38 := (g36.trans g7).trans g8
 have G8 : Grow h0 h8 := G3.trans g38
 have z7 := d1.lt
 have z8 := d2.lt
 have z9 : h7.blks.size < h8.blks.size := (Array.getElem?_eq_some_iff.1 hb).1
 have E8 : EachOk (Fp.below h0.blks.size) s1 s2 s3 s t n w c1 c2' h8 := ⟨T0.grow G8, q.bound.grow G8, N.grow G8, g8.has d1, g8.has d2⟩
 have I0 : Lp EP T.kn T.kcl (pNote s1 s2 s3 n s u (g.length : Int) h0.blks.size h1.blks.size h2.blks.size h5.blks.size gv) h8 h5.blks.size h7.blks.size (sumsL g (rowsL t n w) []) h8 := ⟨Md.refl _ _, hb, _, none, g8.has (g7.has b6), trivial, GF.none _ _ _ _⟩
 have k1 := khy (l := h7.blks.size) (Inv := fun d h => Lp EP T.kn T.kcl (pNote s1 s2 s3 n s u (g.length : Int) h0.blks.size h1.blks.size h2.blks.size h5.blks.size gv) h8 h5.blks.size h7.blks.size (sumsL g (rowsL t n w) d) h) (fun d h I => E8.md I.md (fun j a b => by have a : j < h0.blks.size := a; rcases b with rfl | rfl <;> omega) (fun j hj => Classical.byContradiction fun k => hj (Av.of_base N (Nat.le_of_not_lt k))) (by omega) (by omega)) (fun d h h' I g => I.grow g) hR (fun d f c h y j hf hc hd I V => koq (by omega) (by omega) (by omega) (by omega) (by omega) (by omega) hd (by omega) (kca hR).1 (g38.has b3) (N0 := h0.blks.size) (by omega) (by omega) (by omega) ((Q.bound.mono fun _ x => x.2).grow G8) I V) I0
 show Runs ((go (.fn F.ku [.func (.yield h7.blks.size) [] [], .ptr (some (.new c1 0)), .ptr (some (.new c2' 0))]) h8).bind _) _
 refine k1.call fun v h9 ⟨e, I⟩ => ?_
 obtain ⟨M, hn9, t', j, B, lj, V⟩ := I
 dsimp only
 rw [kgj hn9, Option.bind_some, kom]
 have u7 : Upd h9 (h9.setBlk h7.blks.size .dead) h7.blks.size := AH.setBlk_Upd _
 have zz := M.size
 have G9 : Grow h0 h9 := (G8.thenM M).grow fun j hj => by intro k; rcases k with rfl | rfl <;> omega
 refine Runs.step ((B.updr (by omega) u7).rd0 rfl (asSl_v _)) (Runs.ret ⟨G9.updr (by omega) u7, t', j, rfl, LeO.trans (by omega) lj, ?_⟩)
 exact V.upd u7 Fp.not_no (kbt (by omega) lj)
end
end Go.Ab

/- squeezed -/
set_option linter.unusedVariables false
set_option linter.unusedSimpArgs false
set_option maxRecDepth 10000
namespace Go.Ab
open Go.Proofs
section
variable {h0 : AH} {S : Fp} {s1 s2 s3 s u : Sl} {t : Tb} {n : Int} {w : List Nat} {g : List Int}
theorem knh (q : TabAt h0 S s1 s2 s3 t) (hR : tabR t = true) {b : Nat} (B : h0.has b [s1.v, s2.v, s3.v] T.kj) {f : Nat} (hf : f < t.cols.length) {Q : AV → AH → Prop} (hP : ∀ (h : AH) (y : Sl) (j : Option Nat), Grow h0 h → LeO h0.blks.size j → GF EP T.kr h Fp.no y j (zc (cutsTo t (f + 1))) → Runs (go (.pt F.k8 Td.kdk [(1, .ptr (some (.new b 0))), (3, .bool true), (4, y.v), (5, .int .i64 ((f + 1 : Nat) : Int))]) h) Q) :
  ∀ (k c : Nat), c + k = nb t f → ∀ (h : AH) (y : Sl) (j : Option Nat), Grow h0 h → LeO h0.blks.size j → GF EP T.kr h Fp.no y j (zc (cutsTo t f ++ (List.range c).map fun c => (f, c))) →
  Runs (go (.pt F.k8 Td.kep [(1, .ptr (some (.new b 0))), (3, .bool true), (4, y.v), (5, .int .i64 (f : Int)), (6, .int .i64 (c : Int))]) h) Q := by
 obtain ⟨hids, hcols, hbins, hall⟩ := kca hR
 obtain ⟨hb, hb2, hb32, hcl⟩ := kb8 (hall f hf) hf hbins
 have hgd : t.bins.getD f 0 = t.bins[f] := by simp [List.getD, hb]
 have hnb : (nb t f : Int) = t.bins[f] - 1 := by
  unfold nb
  rw [hgd]
  omega
 have hlen : (cutsTo t f).length ≤ 31 * f := kea t f fun i hi => by
  obtain ⟨hb', h2', h32', -⟩ := kb8 (hall i (by omega)) (by omega) hbins
  have : t.bins.getD i 0 = t.bins[i] := by simp [List.getD, hb']
  unfold nb
  rw [this]
  omega
 intro k
 induction k with
 | zero =>
  intro c hc h y j G lj V
  obtain rfl : c = nb t f := by omega
  rw [← kgm] at V
  obtain ⟨r, e1, e2⟩ := (q.bins.grow G).int hb
  rw [kia]
  refine Runs.step ((G.has B).rd 1 rfl (asSl_v _)) (Runs.step e1 (Runs.step e2 ?_))
  rw [wrap64 (n := t.bins[f] - 1) (by omega) (by omega), ← hnb]
  refine Runs.ifF (decide_eq_false (by omega)) ?_
  rw [ki (by omega)]
  exact hP h y j G lj V
 | succ k ih =>
  intro c hc h y j G lj V
  obtain ⟨r, e1, e2⟩ := (q.bins.grow G).int hb
  rw [kia]
  refine Runs.step ((G.has B).rd 1 rfl (asSl_v _)) (Runs.step e1 (Runs.step e2 ?_))
  rw [wrap64 (n := t.bins[f] - 1) (by omega) (by omega), ← hnb]
  refine Runs.ifT (decide_eq_true (by omega)) ?_
  refine Runs.new fun h2 b2 g2 => ?_
  refine Runs.step (kc9 b2 (by rw [khf]; rfl)) ?_
  have hl : (zc (cutsTo t f ++ (List.range c).map fun c => (f, c))).length ≤ 1000 := by
   rw [zc_len, List.length_append, List.length_map, List.length_range]
   omega
  obtain ⟨y', h3, e3, V3, u3⟩ := (V.grow g2).push (T := Fp.no) (EP.of (f : Int) (c : Int)) NotO.no (kkf (by omega))
  refine Runs.step e3 (Runs.step (asSl_v _) ?_)
  rw [ki (by omega)]
  refine ih (c + 1) (by omega) h3 y' (some h2.blks.size) ((G.trans g2).updo lj u3) (show _ ≤ _ from (G.trans g2).size) ?_
  rw [List.range_succ, List.map_append, ← List.append_assoc, zc_app]
  exact V3.mono (fun j x => x.1.elim id id) NotO.no
theorem ko0 (q : TabAt h0 S s1 s2 s3 t) (hR : tabR t = true) {b : Nat} (B : h0.has b [s1.v, s2.v, s3.v] T.kj) : ∀ (k f : Nat), f + k = t.cols.length → ∀ (h : AH) (y : Sl) (j : Option Nat), Grow h0 h → LeO h0.blks.size j → GF EP T.kr h Fp.no y j (zc (cutsTo t f)) →
  Runs (go (.pt F.k8 Td.kdk [(1, .ptr (some (.new b 0))), (3, .bool true), (4, y.v), (5, .int .i64 (f : Int))]) h) fun v h' => Grow h0 h' ∧ ∃ (y : Sl) (j : Option Nat), v = y.v ∧ LeO h0.blks.size j ∧ GF EP T.kr h' Fp.no y j (zc (cutsTo t t.cols.length)) := by
 obtain ⟨hids, hcols, hbins, hall⟩ := kca hR
 intro k
 induction k with
 | zero =>
  intro f hf h y j G lj V
  obtain rfl : f = t.cols.length := by omega
  rw [kg4]
  refine Runs.ifT rfl (Runs.step ((G.has B).rd 2 rfl (asSl_v _)) ?_)
  rw [q.cols.len]
  exact Runs.ifF (decide_eq_false (by omega)) (Runs.ret ⟨G, y, j, rfl, lj, V⟩)
 | succ k ih =>
  intro f hf h y j G lj V
  rw [kg4]
  refine Runs.ifT rfl (Runs.step ((G.has B).rd 2 rfl (asSl_v _)) ?_)
  rw [q.cols.len]
  refine Runs.ifT (decide_eq_true (by omega)) ?_
  exact knh q hR B (by omega) (fun h y j G lj V => ih (f + 1) (by omega) h y j G lj V) (nb t f) 0 (by omega) h y j G lj (by simpa using V)
theorem ki8 (q : TabAt h0 S s1 s2 s3 t) : Runs (go (.fn F.k8 [.agg [s1.v, s2.v, s3.v]]) h0) fun v h' => Grow h0 h' ∧ ∃ (y : Sl) (j : Option Nat), v = y.v ∧ LeO h0.blks.size j ∧ GF EP T.kr h' Fp.no y j (zc (cutsL t)) := by
 rw [kop]
 refine Runs.new fun h1 b1 g1 => Runs.step (b1.rd 0 rfl (asSl_v _)) (Runs.step (b1.rd 1 rfl (asSl_v _)) (Runs.step (b1.rd 2 rfl (asSl_v _)) ?_))
 refine (ki4 (q.grow g1)).call fun v h2 ⟨e, g2⟩ => ?_
 subst e
 refine Runs.step (seen rfl) ?_
 have G := g1.trans g2
 unfold cutsL
 cases hR : tabR t with
 | false =>
  rw [kg4]
  exact Runs.ifF rfl (Runs.ret ⟨G, _, none, rfl, trivial, GF.none _ _ _ _⟩)
 | true =>
  refine (ko0 (q.grow G) hR (g2.has b1) t.cols.length 0 (by omega) h2 _ none (Grow.refl _) trivial (GF.none _ _ _ _)).imp fun v h' ⟨g, y, j, e, lj, V⟩ => ⟨G.trans g, y, j, e, LeO.trans G.size lj, V⟩
theorem koj (q : TabAt h0 S s1 s2 s3 t) (N : Nats h0 s w) {m : Int} : Runs (go (.fn F.kf2 [.agg [s1.v, s2.v, s3.v], .agg [.int .i64 n, s.v], .int .i64 m]) h0) fun v h' => v = .int .i64 (faultH t n w m) ∧ Grow h0 h' := by
 rw [kqw]
 refine Runs.new fun h1 b1 g1 => Runs.new fun h2 b2 g2 => ?_
 have B1 := g2.has b1
 have G2 := g1.trans g2
 refine Runs.step (B1.rd 0 rfl (asSl_v _)) (Runs.step (B1.rd 1 rfl (asSl_v _)) (Runs.step (B1.rd 2 rfl (asSl_v _)) ?_))
 refine (ki4 (q.grow G2)).call fun v h3 ⟨e, g3⟩ => ?_
 subst e
 unfold faultH
 refine Runs.step (seen rfl) (Runs.cond (fun c => Runs.ret ⟨by rw [if_pos c], G2.trans g3⟩) fun c => ?_)
 rw [if_neg (by rw [c]; simp)]
 refine Runs.step ((g3.has b2).rd 0 rfl (kc _ _)) (Runs.step ((g3.has b2).rd 1 rfl (asSl_v _)) ?_)
 refine (kjx (N.grow (G2.trans g3))).call fun v h4 ⟨e, g4⟩ => ?_
 subst e
 have G4 := (G2.trans g3).trans g4
 have b2' := g4.has (g3.has b2)
 have B1' := g4.has (g3.has B1)
 refine Runs.step (seen rfl) (Runs.cond (fun c => Runs.ret ⟨by rw [if_pos c], G4⟩) fun c => ?_)
 rw [if_neg (by rw [c]; simp)]
 refine Runs.step (b2'.rd 0 rfl (kc _ _)) (Runs.step (B1'.rd 0 rfl (asSl_v _)) ?_)
 rw [q.ids.len]
 refine Runs.cond (fun c => Runs.ret ⟨by rw [if_pos c], G4⟩) fun c => ?_
 rw [if_neg (by rw [c]; simp)]
 refine Runs.step (B1'.rd 0 rfl (asSl_v _)) ?_
 rw [q.ids.len]
 refine Runs.cond (fun c => Runs.ret ⟨by rw [if_pos c], G4⟩) fun c => ?_
 rw [if_neg (by rw [c]; simp)]
 exact Runs.ret ⟨rfl, G4⟩
theorem kpi {xs ys : List (Int × Int)} {x y : Sl} {h : AH} (X : Sq EP h S x xs) {S' : Fp} (Y : Sq EP h S' y ys) (hl : xs.length = ys.length) : ∀ (k i : Nat), i + k = xs.length → xs.take i = ys.take i →
  go (.pt F.kco Td.kff [(0, x.v), (1, y.v), (5, .int .i64 (i : Int))]) h = some (.bool (decide (xs = ys)), h) := by
 have hs := X.short
 intro k
 induction k with
 | zero =>
  intro i hi ht
  rw [kil, X.len, condF (decide_eq_false (by omega))]
  have : xs = ys := by
   have a : xs.take i = xs := List.take_of_length_le (by omega)
   have b : ys.take i = ys := List.take_of_length_le (by omega)
   rw [a, b] at ht
   exact ht
  rw [decide_eq_true this]
 | succ k ih =>
  intro i hi ht
  have h1 : i < xs.length := by omega
  have h2 : i < ys.length := by omega
  obtain ⟨r1, e1, e2, e3⟩ := X.two h1
  obtain ⟨r2, e4, e5, e6⟩ := Y.two h2
  rw [kil]
  rw [X.len] at e1 ⊢
  rw [condT (decide_eq_true (by omega)), e1, Option.bind_some, e2, Option.bind_some, e3, Option.bind_some, e4, Option.bind_some, e5, Option.bind_some, e6, Option.bind_some]
  by_cases he : xs[i] = ys[i]
  ·rw [he, decide_eq_true rfl, decide_eq_true rfl, condF (show (!(true && (true && true))) = false from rfl), ki (by omega)]
   exact ih (i + 1) (by omega) (by rw [List.take_succ_eq_append_getElem h1, List.take_succ_eq_append_getElem h2, ht, he])
  ·have : (!((decide (xs[i].1 = ys[i].1)) && ((decide (xs[i].2 = ys[i].2)) && true))) = true := by
    rw [Bool.not_eq_true', Bool.and_true, ← Bool.decide_and, decide_eq_false_iff_not]
    exact fun h => he (Prod.ext h.1 h.2)
   rw [condT this, decide_eq_false fun e => he (by subst e; rfl)]
theorem kmw {xs ys : List (Int × Int)} {x y : Sl} {h : AH} (X : Sq EP h S x xs) {S' : Fp} (Y : Sq EP h S' y ys) : go (.fn F.kco [x.v, y.v]) h = some (.bool (decide (xs = ys)), h) := by
 rw [km9, X.len, Y.len]
 by_cases hl : xs.length = ys.length
 ·rw [condF (by rw [decide_eq_true (by omega)]; rfl)]
  exact kpi X Y hl xs.length 0 (by omega) rfl
 ·rw [condT (by rw [decide_eq_false (by omega)]; rfl), decide_eq_false fun e => hl (by rw [e])]
theorem klp {xs ys : List (Int × Int)} {x y : Sl} {h : AH} (X : Sq EP h S x xs) {S' : Fp} (Y : Sq EP h S' y ys) (hl : xs.length = ys.length) : ∀ (k i : Nat), i + k = xs.length → xs.take i = ys.take i →
  go (.pt F.kch Td.kfj [(0, x.v), (1, y.v), (5, .int .i64 (i : Int))]) h = some (.bool (decide (xs = ys)), h) := by
 have hs := X.short
 intro k
 induction k with
 | zero =>
  intro i hi ht
  rw [kjp, X.len, condF (decide_eq_false (by omega))]
  have : xs = ys := by
   have a : xs.take i = xs := List.take_of_length_le (by omega)
   have b : ys.take i = ys := List.take_of_length_le (by omega)
   rw [a, b] at ht
   exact ht
  rw [decide_eq_true this]
 | succ k ih =>
  intro i hi ht
  have h1 : i < xs.length := by omega
  have h2 : i < ys.length := by omega
  obtain ⟨r1, e1, e2, e3⟩ := X.two h1
  obtain ⟨r2, e4, e5, e6⟩ := Y.two h2
  rw [kjp]
  rw [X.len] at e1 ⊢
  rw [condT (decide_eq_true (by omega)), e1, Option.bind_some, e2, Option.bind_some, e3, Option.bind_some, e4, Option.bind_some, e5, Option.bind_some, e6, Option.bind_some]
  by_cases he : xs[i] = ys[i]
  ·rw [he, decide_eq_true rfl, decide_eq_true rfl, condF (show (!(true && (true && true))) = false from rfl), ki (by omega)]
   exact ih (i + 1) (by omega) (by rw [List.take_succ_eq_append_getElem h1, List.take_succ_eq_append_getElem h2, ht, he])
  ·have : (!((decide (xs[i].1 = ys[i].1)) && ((decide (xs[i].2 = ys[i].2)) && true))) = true := by
    rw [Bool.not_eq_true', Bool.and_true, ← Bool.decide_and, decide_eq_false_iff_not]
    exact fun h => he (Prod.ext h.1 h.2)
   rw [condT this, decide_eq_false fun e => he (by subst e; rfl)]
theorem klr {xs ys : List (Int × Int)} {x y : Sl} {h : AH} (X : Sq EP h S x xs) {S' : Fp} (Y : Sq EP h S' y ys) : go (.fn F.kch [x.v, y.v]) h = some (.bool (decide (xs = ys)), h) := by
 rw [krp, X.len, Y.len]
 by_cases hl : xs.length = ys.length
 ·rw [condF (by rw [decide_eq_true (by omega)]; rfl)]
  exact klp X Y hl xs.length 0 (by omega) rfl
 ·rw [condT (by rw [decide_eq_false (by omega)]; rfl), decide_eq_false fun e => hl (by rw [e])]
end
end Go.Ab

/- squeezed -/
set_option linter.unusedVariables false
set_option linter.unusedSimpArgs false
set_option maxRecDepth 10000
namespace Go.Ab
open Go.Proofs
theorem kpg {t : Tb} {w : List Nat} (hR : btR (t.ids.length : Int) w = true) (p : Nat × Nat) : rowsL t (t.ids.length : Int) w p = (btL (t.ids.length : Int) w).filter (leftP t p.1 (p.2 : Int)) := by
 unfold rowsL btL
 rw [hR, decide_eq_true rfl, Bool.and_self, if_pos rfl, if_pos rfl, Int.toNat_natCast]
 unfold leftR
 rw [List.filter_filter, List.filter_filter]
 apply List.filter_congr
 intro x _
 exact Bool.and_comm _ _
section
variable {h0 : AH} {S : Fp} {s1 s2 s3 s u : Sl} {t : Tb} {n : Int} {w : List Nat} {g : List Int}
theorem klm (q : TabAt h0 S s1 s2 s3 t) (Q : Sq EI h0 S u g) {b : Nat} (B : h0.has b [s1.v, s2.v, s3.v] T.kj) {L : List Nat} {C : List (Nat × Nat)} {x y o : Sl} {S1 S2 : Fp} (X : Sq EI h0 S1 x (zs L)) (Y : Sq EP h0 S2 y (zc C)) {i : Nat} (hi : i < C.length) (hC : C.length ≤ 1000) (hLl : L.length ≤ 1000) (hf : C[i].1 < t.cols.length) (hL : ∀ z ∈ L, z < g.length ∧ z < t.cols[C[i].1].length) {jo : Option Nat} {xs : List (Int × Int)} (ljo : LeO h0.blks.size jo) (hxs : xs.length ≤ 1000) {bx : Nat} (hbx : h0.blks.size ≤ bx) (hjb : ∀ k, jo = some k → k ≠ bx) {P : AV → AH → Prop}
  (hP : ∀ (h : AH) (o : Sl) (j : Option Nat), Grow h0 h → LeO h0.blks.size j → GF EP T.kn h Fp.no o j (xs ++ [(sumG g (L.filter (leftP t C[i].1 (C[i].2 : Int))) 0, ((L.filter (leftP t C[i].1 (C[i].2 : Int))).length : Int))]) → Runs (go (.pt F.ky Td.kdr [(2, u.v), (3, .ptr (some (.new b 0))), (10, x.v), (11, y.v), (12, o.v), (13, .int .i64 ((i + 1 : Nat) : Int))]) h) P) :
  ∀ (k c : Nat), c + k = L.length → ∀ (h : AH), Grow h0 h → GF EP T.kn h Fp.no o jo xs → h.has bx [.int .i64 (sumG g ((L.take c).filter (leftP t C[i].1 (C[i].2 : Int))) 0), .int .i64 (((L.take c).filter (leftP t C[i].1 (C[i].2 : Int))).length : Int)] T.kn →
  Runs (go (.pt F.ky Td.kdj [(2, u.v), (3, .ptr (some (.new b 0))), (10, x.v), (11, y.v), (12, o.v), (13, .int .i64 (i : Int)), (14, .ptr (some (.new bx 0))), (15, .int .i64 (c : Int))]) h) P := by
 intro k
 induction k with
 | zero =>
  intro c hc h G V Bx
  obtain rfl : c = L.length := by omega
  rw [List.take_length] at Bx
  rw [khs, X.len, zs_len]
  refine Runs.ifF (decide_eq_false (by omega)) (Runs.step (Bx.rd 0 rfl (kc _ _)) (Runs.step (Bx.rd 1 rfl (kc _ _)) ?_))
  refine Runs.new fun h2 b2 g2 => ?_
  refine Runs.step (kc9 b2 (by rw [kig]; rfl)) ?_
  obtain ⟨o', h3, e3, V3, u3⟩ := (V.grow g2).push (T := Fp.no) (EP.of _ _) NotO.no (kjk (by omega))
  refine Runs.step e3 (Runs.step (asSl_v _) ?_)
  rw [ki (by omega)]
  exact hP h3 o' (some h2.blks.size) ((G.trans g2).updo ljo u3) (show _ ≤ _ from (G.trans g2).size) (V3.mono (fun j x => x.1.elim id id) NotO.no)
 | succ k ih =>
  intro c hc h G V Bx
  have hcl : c < L.length := by omega
  have hz : c < (zs L).length := by rw [zs_len]; exact hcl
  have hzc : i < (zc C).length := by rw [zc_len]; exact hi
  obtain ⟨hg, hcol⟩ := hL _ (List.getElem_mem hcl)
  have ez : (zs L)[c] = ((L[c] : Nat) : Int) := by simp [zs]
  have ec : (zc C)[i] = ((C[i].1 : Int), (C[i].2 : Int)) := by simp [zc]
  obtain ⟨r1, e1, e2, e3⟩ := (Y.grow G).two hzc
  rw [ec] at e2 e3
  obtain ⟨r2, s', e4, e5, -, q'⟩ := (q.cols.grow G).sl hf
  obtain ⟨r3, e6, e7⟩ := (X.grow G).int hz
  rw [ez] at e7
  obtain ⟨r4, e8, e9⟩ := q'.int hcol
  obtain ⟨r5, e10, e11⟩ := (Q.grow G).int hg
  have ht : L.take (c + 1) = L.take c ++ [L[c]] := List.take_succ_eq_append_getElem hcl
  have hp : leftP t C[i].1 (C[i].2 : Int) L[c] = decide (t.cols[C[i].1][L[c]] ≤ (C[i].2 : Int)) := by
   unfold leftP
   simp [List.getD, hf, hcol]
  have hlt : ((L.take c).filter (leftP t C[i].1 (C[i].2 : Int))).length ≤ c := Nat.le_trans (List.length_filter_le _ _) (by simp; omega)
  rw [khs, X.len, zs_len]
  rw [X.len, zs_len] at e6
  refine Runs.ifT (decide_eq_true (by omega)) (Runs.step ((G.has B).rd 2 rfl (asSl_v _)) (Runs.step e1 (Runs.step e2 (Runs.step e4 (Runs.step e5 (Runs.step e6 (Runs.step e7 (Runs.step e8 (Runs.step e9 (Runs.step e1 (Runs.step e3 ?_)))))))))))
  refine Runs.cond (fun c1 => ?_) fun c1 => ?_
  ·refine Runs.step (Bx.rd 0 rfl (kc _ _)) (Runs.step e6 (Runs.step e7 (Runs.step e10 (Runs.step e11 ?_))))
   refine Runs.putAt (o := 0) Bx (by simp) rfl fun h1 Bx1 u1 => ?_
   refine Runs.step (Bx1.rd 1 rfl (kc _ _)) ?_
   refine Runs.putAt (o := 1) Bx1 (by simp) rfl fun h2 Bx2 u2 => ?_
   rw [ki (by omega)]
   refine ih (c + 1) (by omega) h2 ((G.updr hbx u1).updr hbx u2) ((V.upd u1 Fp.not_no hjb).upd u2 Fp.not_no hjb) ?_
   rw [ht, List.filter_append]
   have hf1 : [L[c]].filter (leftP t C[i].1 (C[i].2 : Int)) = [L[c]] := by
    rw [List.filter_cons, hp, c1]
    rfl
   rw [hf1, List.length_append, List.length_singleton]
   have hs : sumG g ((L.take c).filter (leftP t C[i].1 (C[i].2 : Int)) ++ [L[c]]) 0 = IntKind.wrap .i64 (sumG g ((L.take c).filter (leftP t C[i].1 (C[i].2 : Int))) 0 + g[L[c]]) := by
    unfold sumG
    rw [List.foldl_append]
    simp [List.getD, hg]
   rw [hs]
   have hw : IntKind.wrap .i64 (((((L.take c).filter (leftP t C[i].1 (C[i].2 : Int))).length : Nat) : Int) + 1) = (((((L.take c).filter (leftP t C[i].1 (C[i].2 : Int))).length + 1 : Nat)) : Int) := ki (by omega)
   simpa [hw] using Bx2
  ·rw [ki (by omega)]
   refine ih (c + 1) (by omega) h G V ?_
   rw [ht, List.filter_append]
   have hf1 : [L[c]].filter (leftP t C[i].1 (C[i].2 : Int)) = [] := by
    rw [List.filter_cons, hp, c1]
    rfl
   rw [hf1, List.append_nil]
   exact Bx
theorem kob (q : TabAt h0 S s1 s2 s3 t) (Q : Sq EI h0 S u g) {b : Nat} (B : h0.has b [s1.v, s2.v, s3.v] T.kj) {L : List Nat} {C : List (Nat × Nat)} {x y : Sl} {S1 S2 : Fp} (X : Sq EI h0 S1 x (zs L)) (Y : Sq EP h0 S2 y (zc C)) (hC : C.length ≤ 1000) (hLl : L.length ≤ 1000) (hf : ∀ p ∈ C, ∃ hf : p.1 < t.cols.length, ∀ z ∈ L, z < g.length ∧ z < t.cols[p.1].length) : ∀ (k i : Nat), i + k = C.length → ∀ (h : AH) (o : Sl) (jo : Option Nat), Grow h0 h → LeO h0.blks.size jo → GF EP T.kn h Fp.no o jo (sumsL g (fun p => L.filter (leftP t p.1 (p.2 : Int))) (C.take i)) →
  Runs (go (.pt F.ky Td.kdr [(2, u.v), (3, .ptr (some (.new b 0))), (10, x.v), (11, y.v), (12, o.v), (13, .int .i64 (i : Int))]) h) fun v h' => Grow h0 h' ∧ ∃ (o : Sl) (j : Option Nat), v = .tup [o.v, .int .i64 0] ∧ LeO h0.blks.size j ∧ GF EP T.kn h' Fp.no o j (sumsL g (fun p => L.filter (leftP t p.1 (p.2 : Int))) C) := by
 intro k
 induction k with
 | zero =>
  intro i hi h o jo G lj V
  obtain rfl : i = C.length := by omega
  rw [List.take_length] at V
  rw [kjl, Y.len, zc_len]
  exact Runs.ifF (decide_eq_false (by omega)) (Runs.ret ⟨G, o, jo, rfl, lj, V⟩)
 | succ k ih =>
  intro i hi h o jo G lj V
  have hi' : i < C.length := by omega
  obtain ⟨hf1, hf2⟩ := hf _ (List.getElem_mem hi')
  rw [kjl, Y.len, zc_len]
  refine Runs.ifT (decide_eq_true (by omega)) ?_
  have hlt := V.lt
  refine Runs.new fun h1 b1 g1 => Runs.puts b1 rfl fun h2 b2 u2 => ?_
  have g2 : Grow h h2 := g1.updr (Nat.le_refl _) u2
  refine klm q Q B X Y hi' hC hLl hf1 hf2 (jo := jo) (xs := sumsL g (fun p => L.filter (leftP t p.1 (p.2 : Int))) (C.take i)) lj (by unfold sumsL; rw [List.length_map, List.length_take]; omega) (bx := h.blks.size) G.size (fun k e => by subst e; have : k < h.blks.size := hlt; omega) (fun h' o' j' G' lj' V' => ?_) L.length 0 (by omega) h2 (G.trans g2) (V.grow g2) b2
  refine ih (i + 1) (by omega) h' o' j' G' lj' ?_
  rw [List.take_succ_eq_append_getElem hi']
  unfold sumsL at V' ⊢
  rw [List.map_append]
  exact V'
theorem kkx (q : TabAt h0 S s1 s2 s3 t) (Q : Sq EI h0 S u g) (N : Nats h0 s w) {b b2 : Nat} (B : h0.has b [s1.v, s2.v, s3.v] T.kj) (B2 : h0.has b2 [.int .i64 n, s.v] T.kf) (hc : faultH t n w (g.length : Int) = 0) : ∀ (k i : Nat), i + k = g.length → ((g.take i).any fun x => decide (x < -1048576) || decide (x > 1048576)) = false →
  Runs (go (.pt F.ky Td.kfk [(2, u.v), (3, .ptr (some (.new b 0))), (4, .ptr (some (.new b2 0))), (9, .int .i64 (i : Int))]) h0) fun v h' => Grow h0 h' ∧ ∃ (y : Sl) (j : Option Nat), v = .tup [y.v, .int .i64 (plainH t n w g).2] ∧ LeO h0.blks.size j ∧ GF EP T.kn h' Fp.no y j (plainH t n w g).1 := by
 obtain ⟨hR, hR2, hn, hm⟩ := kjq hc
 obtain ⟨hids, hcols, hbins, hall⟩ := kca hR
 have hg : g.length = t.ids.length := by omega
 intro k
 induction k with
 | zero =>
  intro i hi ha
  obtain rfl : i = g.length := by omega
  rw [List.take_length] at ha
  have hpl : plainH t n w g = (sumsL g (rowsL t n w) (cutsL t), 0) := by
   unfold plainH
   rw [if_pos hc, if_neg (by rw [show oddG g = false from ha]; simp)]
  rw [hpl]
  subst hn
  rw [khd, Q.len]
  refine Runs.ifF (decide_eq_false (by omega)) (Runs.step (B2.rd 0 rfl (kc _ _)) (Runs.step (B2.rd 1 rfl (asSl_v _)) ?_))
  refine (kra N).call fun v h1 ⟨g1, x, jx, e, ljx, X⟩ => ?_
  subst e
  refine Runs.step (seen (asSl_v _)) (Runs.step ((g1.has B).rd 0 rfl (asSl_v _)) (Runs.step ((g1.has B).rd 1 rfl (asSl_v _)) (Runs.step ((g1.has B).rd 2 rfl (asSl_v _)) ?_)))
  refine (ki8 (q.grow g1)).call fun v h2 ⟨g2, y, jy, e, ljy, Y⟩ => ?_
  subst e
  refine Runs.step (seen (asSl_v _)) ?_
  have G := g1.trans g2
  have hL : ∀ z ∈ btL (t.ids.length : Int) w, z < t.ids.length := fun z hz => by
   unfold btL at hz
   rw [if_pos hR2, List.mem_filter, List.mem_range, Int.toNat_natCast] at hz
   exact hz.1
  have hLl : (btL (t.ids.length : Int) w).length ≤ 1000 := by
   unfold btL
   rw [if_pos hR2, Int.toNat_natCast]
   exact Nat.le_trans (List.length_filter_le _ _) (by simp; omega)
  have hCl : (cutsL t).length ≤ 1000 := by
   unfold cutsL
   rw [if_pos hR]
   have := kea t t.cols.length fun i hi => by
    obtain ⟨hb', h2', h32', -⟩ := kb8 (hall i hi) hi hbins
    have : t.bins.getD i 0 = t.bins[i] := by simp [List.getD, hb']
    unfold nb
    rw [this]
    omega
   omega
  have := kob (q.grow G) (Q.grow G) (G.has B) ((X.grow g2).sq) Y.sq hCl hLl (fun p hp => by
   have h1 : p.1 < t.cols.length := by
    unfold cutsL cutsTo at hp
    rw [if_pos hR] at hp
    simp only [List.mem_flatMap, List.mem_range, List.mem_map] at hp
    obtain ⟨f, hf, c, -, rfl⟩ := hp
    exact hf
   obtain ⟨-, -, -, hcl⟩ := kb8 (hall _ h1) h1 hbins
   exact ⟨h1, fun z hz => by have := hL z hz; omega⟩) (cutsL t).length 0 (by omega) h2 _ none (Grow.refl _) trivial (GF.none _ _ _ _)
  refine this.imp fun v h' ⟨g3, o, j, e, lj, V⟩ => ⟨G.trans g3, o, j, e, LeO.trans G.size lj, ?_⟩
  have : rowsL t (t.ids.length : Int) w = fun p => (btL (t.ids.length : Int) w).filter (leftP t p.1 (p.2 : Int)) := funext fun p => kpg hR2 p
  rw [this]
  exact V
 | succ k ih =>
  intro i hi ha
  have hi' : i < g.length := by omega
  obtain ⟨r, e1, e2⟩ := Q.int hi'
  rw [khd]
  rw [Q.len] at e1 ⊢
  have ht : g.take (i + 1) = g.take i ++ [g[i]] := List.take_succ_eq_append_getElem hi'
  have bad : decide (g[i] < -1048576) || decide (g[i] > 1048576) → Runs (some (AV.tup [(⟨none, 0, .is 0⟩ : Sl).v, .int .i64 1], h0)) fun v h' => Grow h0 h' ∧ ∃ (y : Sl) (j : Option Nat), v = .tup [y.v, .int .i64 (plainH t n w g).2] ∧ LeO h0.blks.size j ∧ GF EP T.kn h' Fp.no y j (plainH t n w g).1 := fun hb => by
   have ho : oddG g = true := by
    unfold oddG
    rw [List.any_eq_true]
    exact ⟨g[i], List.getElem_mem hi', hb⟩
   have hpl : plainH t n w g = ([], 1) := by
    unfold plainH
    rw [if_pos hc, if_pos ho]
   rw [hpl]
   exact Runs.ret ⟨Grow.refl _, (⟨none, 0, .is 0⟩ : Sl), none, rfl, trivial, GF.none _ _ _ _⟩
  refine Runs.ifT (decide_eq_true (by omega)) (Runs.step e1 (Runs.step e2 (Runs.cond (fun c => bad (by rw [c]; rfl)) fun c => ?_)))
  refine Runs.step e1 (Runs.step e2 (Runs.cond (fun c2 => bad (by rw [c2]; simp)) fun c2 => ?_))
  rw [ki (by omega)]
  refine ih (i + 1) (by omega) ?_
  rw [ht, List.any_append, ha]
  simp only [List.any_cons, List.any_nil, Bool.or_false, Bool.false_or]
  rw [c, c2]
  rfl
theorem kq1 (q : TabAt h0 S s1 s2 s3 t) (N : Nats h0 s w) (Q : Sq EI h0 S u g) : Runs (go (.fn F.ky [.agg [s1.v, s2.v, s3.v], .agg [.int .i64 n, s.v], u.v]) h0) fun v h' => Grow h0 h' ∧ ∃ (y : Sl) (j : Option Nat), v = .tup [y.v, .int .i64 (plainH t n w g).2] ∧ LeO h0.blks.size j ∧ GF EP T.kn h' Fp.no y j (plainH t n w g).1 := by
 rw [kod]
 refine Runs.new fun h1 b1 g1 => Runs.new fun h2 b2 g2 => ?_
 have B1 := g2.has b1
 have G2 := g1.trans g2
 refine Runs.step (B1.rd 0 rfl (asSl_v _)) (Runs.step (B1.rd 1 rfl (asSl_v _)) (Runs.step (B1.rd 2 rfl (asSl_v _)) (Runs.step (b2.rd 0 rfl (kc _ _)) (Runs.step (b2.rd 1 rfl (asSl_v _)) ?_))))
 rw [Q.len]
 refine (koj (q.grow G2) (N.grow G2)).call fun v h4 ⟨e, g4⟩ => ?_
 subst e
 have G4 := G2.trans g4
 refine Runs.step (seen rfl) (Runs.cond (fun c => ?_) fun c => ?_)
 ·rw [Bool.not_eq_true', decide_eq_false_iff_not] at c
  have hpl : plainH t n w g = ([], faultH t n w (g.length : Int)) := by
   unfold plainH
   rw [if_neg c]
  rw [hpl]
  exact Runs.ret ⟨G4, (⟨none, 0, .is 0⟩ : Sl), none, rfl, trivial, GF.none _ _ _ _⟩
 rw [Bool.not_eq_false', decide_eq_true_eq] at c
 refine (kkx (q.grow G4) (Q.grow G4) (N.grow G4) (g4.has B1) (g4.has b2) c g.length 0 (by omega) (by simp)).imp fun v h' ⟨g5, y, j, e, lj, V⟩ => ⟨G4.trans g5, y, j, e, LeO.trans G4.size lj, V⟩
end
end Go.Ab

/- squeezed -/
set_option linter.unusedVariables false
set_option linter.unusedSimpArgs false
set_option maxRecDepth 10000
namespace Go.Ab
open Go.Proofs
section
variable {h0 : AH} {S : Fp} {s1 s2 s3 s u : Sl} {t : Tb} {n : Int} {w : List Nat} {g : List Int}
theorem ke8 {h : AH} {i : Nat} {xs : List Int} {e : TypeId} (b : h.has i (xs.map (AV.int .i64)) e) (hs : xs.length ≤ 9223372036854775807) : Sq EI h (Fp.or (fun j => j = i) Fp.no) ⟨some (.new i 0), xs.length, .is xs.length⟩ xs := by
 refine Sq.lit (rows := xs.map fun x => [AV.int .i64 x]) (e := e) ?_ ?_ rfl hs
 ·have : (xs.map fun x => [AV.int .i64 x]).flatten = xs.map (AV.int .i64) := by
   clear b hs
   induction xs with
   | nil => rfl
   | cons x xs ih => rw [List.map_cons, List.flatten_cons, ih]; rfl
  rw [this]
  exact b
 ·clear b hs
  induction xs with
  | nil => exact .nil
  | cons x xs ih => exact .cons rfl ih
theorem km5 : plainH ⟨[0, 1, 2], [2], [[0, 1, 1]]⟩ 3 [3] [5, 6, 7] = ([(5, 1)], 0) := by decide +kernel
theorem kqf (T0 : Tab h0) : Runs (go (.fn F.kgu []) h0) fun v h' => v = .bool true ∧ Grow h0 h' := by
 rw [kmx]
 refine Runs.new fun h1 b1 g1 => Runs.new fun h2 b2 g2 => Runs.new fun h3 b3 g3 => Runs.new fun h4 b4 g4 => Runs.new fun h5 b5 g5 => Runs.puts b5 rfl fun h6 b6 u6 => ?_
 have G6 : Grow h4 h6 := g5.updr (Nat.le_refl _) u6
 refine Runs.step (b6.rd 0 rfl (asSl_v _)) (Runs.step (b6.rd 1 rfl (asSl_v _)) (Runs.step (b6.rd 2 rfl (asSl_v _)) ?_))
 refine Runs.new fun h7 b7 g7 => Runs.new fun h8 b8 g8 => ?_
 have G48 := (G6.trans g7).trans g8
 have G08 : Grow h0 h8 := (((g1.trans g2).trans g3).trans g4).trans G48
 have q1 : Sq EI h8 Fp.all ⟨some (.new h0.blks.size 0), 3, .is 3⟩ [0, 1, 2] := (ke8 (xs := [0, 1, 2]) (((g2.trans g3).trans g4 |>.trans G48).has b1) (by decide)).mono fun _ _ => trivial
 have q2 : Sq EI h8 Fp.all ⟨some (.new h1.blks.size 0), 1, .is 1⟩ [2] := (ke8 (xs := [2]) (((g3.trans g4).trans G48).has b2) (by decide)).mono fun _ _ => trivial
 have q3 : Sq EI h8 Fp.all ⟨some (.new h2.blks.size 0), 3, .is 3⟩ [0, 1, 1] := (ke8 (xs := [0, 1, 1]) ((g4.trans G48).has b3) (by decide)).mono fun _ _ => trivial
 have q4 : Sq (Ef.seq EI) h8 Fp.all ⟨some (.new h3.blks.size 0), 1, .is 1⟩ [[0, 1, 1]] := (Sq.lit (E := Ef.seq EI) (rows := [[Sl.v ⟨some (.new h2.blks.size 0), 3, .is 3⟩]]) (G48.has b4) (.cons ⟨_, rfl, q3⟩ .nil) rfl).mono fun _ _ => trivial
 have N : Nats h8 ⟨some (.new h6.blks.size 0), 1, .is 1⟩ [3] := Nats.of_has (xs := [3]) (g8.has b7) (by simp) (by simp)
 have Q : Sq EI h8 Fp.all ⟨some (.new h7.blks.size 0), 3, .is 3⟩ [5, 6, 7] := (ke8 (xs := [5, 6, 7]) b8 (by decide)).mono fun _ _ => trivial
 refine (kji (T0.grow G08) (t := ⟨[0, 1, 2], [2], [[0, 1, 1]]⟩) (n := 3) ⟨q1, q2, q4⟩ N Q).call fun v h9 ⟨g9, y, j, e, lj, V⟩ => ?_
 subst e
 rw [km5] at V ⊢
 refine Runs.step rfl (Runs.step (seen (asSl_v _)) (Runs.step (seen (kc _ _)) (Runs.ifT rfl ?_)))
 have hl : y.len = 1 := V.len
 rw [hl]
 refine Runs.ifT rfl ?_
 obtain ⟨r, e1, e2, e3⟩ := V.sq.two (i := 0) (by decide)
 rw [hl] at e1
 refine Runs.step e1 (Runs.step e2 (Runs.step e3 (Runs.ret ⟨rfl, G08.trans g9⟩)))
theorem few_15 (q : TabAt h0 S s1 s2 s3 t) {b1 b2 : Nat} (B1 : h0.has b1 [s1.v, s2.v, s3.v] T.kj) (B2 : h0.has b2 [.int .i64 n, s.v] T.kf) : ∀ (k i : Nat) (a : Int), i + k = t.bins.length → Runs (go (.pt F.k7 Td.kel [(3, .ptr (some (.new b1 0))), (4, .ptr (some (.new b2 0))), (10, .int .i64 a), (11, .int .i64 (i : Int))]) h0) fun v h' => (∃ r, v = .bool r) ∧ Grow h0 h' := by
 have fin : ∀ a : Int, Runs (((h0.cell ((Ref.new b1 0).add 0)).bind AV.asSl).bind fun l9 => cond (decide ((l9.len : Int) ≤ 300)) (((h0.cell ((Ref.new b2 0).add 1)).bind AV.asSl).bind fun l10 => cond (decide ((l10.len : Int) ≤ 2000)) (((h0.cell ((Ref.new b1 0).add 0)).bind AV.asSl).bind fun l11 => some (.bool (decide ((IntKind.wrap .i64 (a * (l11.len : Int))) ≤ 3000)), h0)) (some (.bool false, h0))) (some (.bool false, h0))) fun v h' => (∃ r, v = .bool r) ∧ Grow h0 h' := by
  intro a
  refine Runs.step (B1.rd 0 rfl (asSl_v _)) (Runs.cond (fun _ => ?_) fun _ => Runs.ret ⟨⟨_, rfl⟩, Grow.refl _⟩)
  refine Runs.step (B2.rd 1 rfl (asSl_v _)) (Runs.cond (fun _ => ?_) fun _ => Runs.ret ⟨⟨_, rfl⟩, Grow.refl _⟩)
  exact Runs.step (B1.rd 0 rfl (asSl_v _)) (Runs.ret ⟨⟨_, rfl⟩, Grow.refl _⟩)
 intro k
 induction k with
 | zero =>
  intro i a hi
  rw [kkl]
  refine Runs.step (B1.rd 1 rfl (asSl_v _)) ?_
  rw [q.bins.len]
  exact Runs.ifF (decide_eq_false (by omega)) (fin a)
 | succ k ih =>
  intro i a hi
  have hi' : i < t.bins.length := by omega
  obtain ⟨r, e1, e2⟩ := q.bins.int hi'
  have := q.bins.short
  rw [kkl]
  refine Runs.step (B1.rd 1 rfl (asSl_v _)) ?_
  rw [q.bins.len]
  refine Runs.ifT (decide_eq_true (by omega)) (Runs.cond (fun _ => ?_) fun _ => fin a)
  refine Runs.step (B1.rd 1 rfl (asSl_v _)) (Runs.step e1 (Runs.step e2 ?_))
  rw [ki (by omega)]
  exact ih (i + 1) _ (by omega)
theorem few_8 (q : TabAt h0 S s1 s2 s3 t) {b1 b2 : Nat} (B1 : h0.has b1 [s1.v, s2.v, s3.v] T.kj) (B2 : h0.has b2 [.int .i64 n, s.v] T.kf) : ∀ (k i : Nat) (a : Int), i + k = t.cols.length → Runs (go (.pt F.k7 Td.kfp [(3, .ptr (some (.new b1 0))), (4, .ptr (some (.new b2 0))), (7, .int .i64 a), (9, .int .i64 (i : Int))]) h0) fun v h' => (∃ r, v = .bool r) ∧ Grow h0 h' := by
 intro k
 induction k with
 | zero =>
  intro i a hi
  rw [khr]
  refine Runs.step (B1.rd 2 rfl (asSl_v _)) ?_
  rw [q.cols.len]
  exact Runs.ifF (decide_eq_false (by omega)) (few_15 q B1 B2 t.bins.length 0 0 (by omega))
 | succ k ih =>
  intro i a hi
  have hi' : i < t.cols.length := by omega
  obtain ⟨r, s', e1, e2, -, -⟩ := q.cols.sl hi'
  have := q.cols.short
  rw [khr]
  refine Runs.step (B1.rd 2 rfl (asSl_v _)) ?_
  rw [q.cols.len]
  refine Runs.ifT (decide_eq_true (by omega)) (Runs.step (B1.rd 2 rfl (asSl_v _)) (Runs.step e1 (Runs.step e2 (Runs.cond (fun _ => Runs.ret ⟨⟨_, rfl⟩, Grow.refl _⟩) fun _ => ?_))))
  rw [ki (by omega)]
  exact ih (i + 1) _ (by omega)
theorem klu (q : TabAt h0 S s1 s2 s3 t) : Runs (go (.fn F.k7 [.agg [s1.v, s2.v, s3.v], .agg [.int .i64 n, s.v], (⟨none, 0, .is 0⟩ : Sl).v]) h0) fun v h' => (∃ r, v = .bool r) ∧ Grow h0 h' := by
 rw [kll]
 refine Runs.new fun h1 b1 g1 => Runs.new fun h2 b2 g2 => ?_
 rw [klw]
 refine Runs.ifF rfl ?_
 exact (few_8 (q.grow (g1.trans g2)) (g2.has b1) b2 t.cols.length 0 0 (by omega)).imp fun v h' ⟨e, g⟩ => ⟨e, (g1.trans g2).trans g⟩
theorem ken {h : AH} {cs : List AV} (a : ArgT Pg h T.k5 cs) : ∃ (s : Sl) (xs : List Int), cs = [s.v] ∧ Sq EI h Fp.no s xs := knr Fp.no kjr kiw kdg a
theorem tab_of {h : AH} {x : AV} (a : ArgV Pg h T.kj x) : ∃ (s1 s2 s3 : Sl) (t : Tb), x = .agg [s1.v, s2.v, s3.v] ∧ TabAt h Fp.no s1 s2 s3 t := by
 unfold ArgV at a
 rw [kkj] at a
 obtain ⟨cs, rfl, t⟩ := a
 obtain ⟨hl, hf⟩ := t.struct kkj
 rw [kqs] at hl
 match cs, hl with
 | [x0, x1, x2], _ =>
  simp [kjc, koh] at hf
  obtain ⟨h0, h1, h2⟩ := hf
  obtain ⟨s1, xs, e0, n0⟩ := ken h0
  obtain ⟨s2, ys, e1, n1⟩ := ken h1
  obtain ⟨s3, zs, e2, n2⟩ := Sq.of_arg (E := Ef.seq EI) (S := Fp.no) kni kjc (fun es t => by
   obtain ⟨s, l, e, n⟩ := ken t
   exact ⟨l, s, e, n⟩) h2
  cases e0; cases e1; cases e2
  exact ⟨s1, s2, s3, ⟨xs, ys, zs⟩, rfl, n0, n1, n2⟩
theorem klq {h : AH} {cs : List AV} (a : ArgT Pg h T.ket cs) : ∃ (s : Sl) (xs : List Nat), cs = [s.v] ∧ Nats h s xs := by
 rcases a.slice kma with rfl | ⟨ad, len, cap, rfl, h1, h2, h3⟩
 ·exact ⟨⟨none, 0, .is 0⟩, [], rfl, Nats.nil h⟩
 ·rw [kqz] at h3
  have key : ∀ i, i < len → ∃ x : Nat, h.cell (.old (ad.add i)) = some (u64 x) ∧ x < 18446744073709551616 := by
   intro i hi
   obtain ⟨es, e1, e2⟩ := h3 i hi
   obtain ⟨x, rfl, hw⟩ := e2.int kml
   rw [Nat.mul_one] at e1
   have hx : 0 ≤ x ∧ x < 18446744073709551616 := by
    have : 0 ≤ x ∧ x ≤ 18446744073709551615 := by simpa [Lit.wf, IntKind.has, IntKind.min, IntKind.max, IntKind.bits, IntKind.signed] using hw
    omega
   refine ⟨x.toNat, ?_, by omega⟩
   show _ = some (AV.int .u64 ((x.toNat : Nat) : Int))
   rw [show ((x.toNat : Nat) : Int) = x from by omega]
   simp only [AH.gets, Option.bind_eq_some_iff, Option.map_eq_some_iff] at e1
   obtain ⟨v, e3, l, e4, e5⟩ := e1
   simp only [List.cons.injEq] at e5
   rw [e3, e5.1]
  have mk : ∀ n, n ≤ len → ∃ xs : List Nat, xs.length = n ∧ ∀ (i : Nat) (hi : i < xs.length), h.cell (.old (ad.add i)) = some (u64 xs[i]) ∧ xs[i] < 18446744073709551616 := by
   intro n
   induction n with
   | zero => exact fun _ => ⟨[], rfl, fun i hi => by simp at hi⟩
   | succ n ih =>
    intro hn
    obtain ⟨xs, hl, hx⟩ := ih (by omega)
    obtain ⟨x, k1, k2⟩ := key n (by omega)
    refine ⟨xs ++ [x], by simp [hl], fun i hi => ?_⟩
    simp only [List.length_append, List.length_singleton] at hi
    by_cases hin : i < xs.length
    ·rw [List.getElem_append_left hin]
     exact hx i hin
    ·have : i = n := by omega
     subst this
     rw [List.getElem_append_right (by omega)]
     simp only [hl, Nat.sub_self, List.getElem_singleton]
     exact ⟨k1, k2⟩
  obtain ⟨xs, hl, hx⟩ := mk len (Nat.le_refl _)
  refine ⟨⟨some (.old ad), len, .is cap⟩, xs, rfl, ⟨⟨h1, by simp [hl], fun i v hv => ?_⟩, fun x hx' => ?_, ?_⟩⟩
  ·rw [List.getElem?_map, Option.map_eq_some_iff] at hv
   obtain ⟨x, e1, rfl⟩ := hv
   obtain ⟨hi, rfl⟩ := List.getElem?_eq_some_iff.1 e1
   exact ⟨_, rfl, (hx i hi).1⟩
  ·obtain ⟨i, hi, rfl⟩ := List.getElem_of_mem hx'
   exact (hx i hi).2
  ·have : maxLen = 9223372036854775807 := by decide
   omega
theorem koe {h : AH} {x : AV} (a : ArgV Pg h T.kf x) : ∃ (n : Int) (s : Sl) (w : List Nat), x = .agg [.int .i64 n, s.v] ∧ Nats h s w := by
 unfold ArgV at a
 rw [kiy] at a
 obtain ⟨cs, rfl, t⟩ := a
 obtain ⟨hl, hf⟩ := t.struct kiy
 rw [kl4] at hl
 match cs, hl with
 | [x0, x1], _ =>
  simp [kdg, koz] at hf
  obtain ⟨h0, h1⟩ := hf
  obtain ⟨n, e0, -⟩ := ArgT.int kiw h0
  obtain ⟨s, w, e1, N⟩ := klq h1
  cases e0; cases e1
  exact ⟨n, s, w, rfl, N⟩
theorem HistPlainCard_law (h : AH) (T0 : Tab h) {x1 x2 x3 : AV} (z1 : ArgV Pg h T.kj x1) (z2 : ArgV Pg h T.kf x2) (z3 : ArgV Pg h T.k5 x3) : ∃ h', go (.fn F.kg2 [x1, x2, x3]) h = some (.bool true, h') := by
 obtain ⟨s1, s2, s3, t, rfl, q⟩ := tab_of z1
 obtain ⟨n, s, w, rfl, N⟩ := koe z2
 obtain ⟨u, g, rfl, Q⟩ : ∃ (u : Sl) (g : List Int), x3 = u.v ∧ Sq EI h Fp.no u g := by
  unfold ArgV at z3
  rw [kjr] at z3
  obtain ⟨s, xs, e, n⟩ := ken z3
  cases e
  exact ⟨s, xs, rfl, n⟩
 suffices H : Runs (go (.fn F.kg2 [.agg [s1.v, s2.v, s3.v], .agg [.int .i64 n, s.v], u.v]) h) fun v _ => v = .bool true by
  obtain ⟨_, h', e, rfl⟩ := H
  exact ⟨h', e⟩
 rw [kk4]
 refine Runs.new fun h1 b1 g1 => Runs.new fun h2 b2 g2 => ?_
 refine (kqf (T0.grow (g1.trans g2))).call fun _ h3 ⟨e, g3⟩ => ?_
 subst e
 have B1 := (g2.trans g3).has b1
 have B2 := g3.has b2
 have G3 := g1.trans (g2.trans g3)
 refine Runs.step (seen rfl) ?_
 refine Runs.step (B1.rd 0 rfl (asSl_v _)) (Runs.step (B1.rd 1 rfl (asSl_v _)) (Runs.step (B1.rd 2 rfl (asSl_v _)) (Runs.step (B2.rd 0 rfl (kc _ _)) (Runs.step (B2.rd 1 rfl (asSl_v _)) ?_))))
 refine (klu (q.grow G3)).call fun _ h4 ⟨⟨r, e⟩, g4⟩ => ?_
 subst e
 have B1 := g4.has B1
 have B2 := g4.has B2
 have G4 := G3.trans g4
 refine Runs.step (seen rfl) (Runs.cond (fun _ => Runs.ret rfl) fun _ => Runs.cond (fun _ => Runs.ret rfl) fun _ => ?_)
 refine Runs.step (B1.rd 0 rfl (asSl_v _)) (Runs.step (B1.rd 1 rfl (asSl_v _)) (Runs.step (B1.rd 2 rfl (asSl_v _)) ?_))
 refine (kpz (T0.grow G4) (q.grow G4)).call fun _ h5 ⟨g5, y5, j5, e, l5, V5⟩ => ?_
 subst e
 have B1 := g5.has B1
 have B2 := g5.has B2
 have G5 := G4.trans g5
 refine Runs.step (seen (asSl_v _)) (Runs.step (B1.rd 0 rfl (asSl_v _)) (Runs.step (B1.rd 1 rfl (asSl_v _)) (Runs.step (B1.rd 2 rfl (asSl_v _)) ?_)))
 refine (ki8 (q.grow G5)).call fun _ h6 ⟨g6, y6, j6, e, l6, V6⟩ => ?_
 subst e
 have B1 := g6.has B1
 have B2 := g6.has B2
 have G6 := G5.trans g6
 refine Runs.step (seen (asSl_v _)) ?_
 refine Runs.step (kmw (V5.grow g6).sq V6.sq) ?_
 rw [decide_eq_true rfl]
 refine Runs.step (seen rfl) ?_
 refine Runs.step (B1.rd 0 rfl (asSl_v _)) (Runs.step (B1.rd 1 rfl (asSl_v _)) (Runs.step (B1.rd 2 rfl (asSl_v _)) (Runs.step (B2.rd 0 rfl (kc _ _)) (Runs.step (B2.rd 1 rfl (asSl_v _)) ?_))))
 refine (kji (T0.grow G6) (q.grow G6) (N.grow G6) (Q.grow G6)).call fun _ h7 ⟨g7, y7, j7, e, l7, V7⟩ => ?_
 subst e
 have B1 := g7.has B1
 have B2 := g7.has B2
 have G7 := G6.trans g7
 refine Runs.step rfl (Runs.step (seen (asSl_v _)) (Runs.step (seen (kc _ _)) ?_))
 refine Runs.step (B1.rd 0 rfl (asSl_v _)) (Runs.step (B1.rd 1 rfl (asSl_v _)) (Runs.step (B1.rd 2 rfl (asSl_v _)) (Runs.step (B2.rd 0 rfl (kc _ _)) (Runs.step (B2.rd 1 rfl (asSl_v _)) ?_))))
 refine (kq1 (q.grow G7) (N.grow G7) (Q.grow G7)).call fun _ h8 ⟨g8, y8, j8, e, l8, V8⟩ => ?_
 subst e
 refine Runs.step rfl (Runs.step (seen (asSl_v _)) (Runs.step (seen (kc _ _)) ?_))
 refine Runs.step (klr (V7.grow g8).sq V8.sq) ?_
 rw [decide_eq_true rfl]
 refine Runs.step (seen rfl) (Runs.ifT rfl (Runs.ifT rfl (Runs.ifT rfl (Runs.ret ?_))))
 rw [decide_eq_true rfl]
end
end Go.Ab
