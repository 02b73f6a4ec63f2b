/- squeezed -/
import Derived.Test.YtkcloajajkchiaaPU1

set_option linter.unusedVariables false
set_option linter.unusedSimpArgs false
set_option maxRecDepth 10000
namespace Go.Ab
open Go.Proofs
def oddN (parties : Int) (nc : Nat) (x : Nd) : Bool := !x.leaf && (decide (x.party ≥ parties) || (decide (x.party = 0) && decide (x.feature ≥ (nc : Int))))
def newE (m : List (List Nd)) (parties : Int) (t : Tb) : Int :=
 if modR m = false ∨ parties < 1 ∨ parties > 16 then 1 else if tabR t = false then 20 else if (m.any fun l => l.any (oddN parties t.cols.length)) = true then 1 else 0
def Wk.init (m : List (List Nd)) (t : Tb) : Wk := ⟨m, t, 0, 0, 0, List.replicate t.ids.length 0⟩
theorem Wk.init_ok {m : List (List Nd)} {t : Tb} {parties : Int} (hm : modR m = true) (ht : tabR t = true) (ho : (m.any fun l => l.any (oddN parties t.cols.length)) = false) : (Wk.init m t).Ok := by
 refine ⟨hm, ht, fun l hl x hx h1 h2 => ?_, List.length_replicate, Nat.zero_le _, Nat.zero_le _, fun h => ?_, fun _ => rfl, fun _ => ⟨rfl, rfl⟩⟩
 ·rw [List.any_eq_false] at ho
  have := ho l hl
  simp only [Bool.not_eq_true, List.any_eq_false] at this
  have := this x hx
  unfold oddN at this
  show x.feature < (t.cols.length : Int)
  simp [h1, h2] at this
  omega
 ·have h : 0 < m.length := h
  have := (kcp hm h).1
  show 0 < (m.getD 0 []).length
  simp [List.getD, h]
  omega
theorem GF.nd {e : TypeId} {h : AH} {S : Fp} {s : Sl} : ∀ {i : Option Nat} {xs : List Nd}, GF Ef.nd e h S s i xs → GF Ef.nd e h Fp.no s i xs
 | .none, _, v => v
 | .some k, _, ⟨l, a, r, ln, rows, e', b, c, r2⟩ => ⟨l, Fp.not_no, r, ln, rows, e', b, c, r2.imp fun _ _ x => x⟩
theorem kks {n : Nat} (h : n ≤ 1000000) : growOk Pg n T.ki 7 = true := by
 unfold growOk
 rw [knl, kix]
 have h1 : n * 56 ≤ kj := by simp only [kj]; omega
 have h2 : n ≤ kj := by simp only [kj]; omega
 simp [h1, h2]
theorem kng {n : Nat} (h : n ≤ 1000000) : growOk Pg n T.kx 1 = true := by
 unfold growOk
 rw [kmj, kjj]
 have h1 : n * 24 ≤ kj := by simp only [kj]; omega
 have h2 : n ≤ kj := by simp only [kj]; omega
 simp [h1, h2]
theorem kld {h : AH} {S : Fp} {s : Sl} {xs : List Nd} (n : Sq Ef.nd h S s xs) (hl : xs.length ≤ 1000000) : Runs (go (.fn F.kfk [s.v]) h) fun v h' => ∃ (s' : Sl) (i : Option Nat), v = s'.v ∧ GF Ef.nd T.ki h' Fp.no s' i xs ∧ Grow h h' ∧ LeO h.blks.size i := by
 rw [kk1]
 exact (Runs.clone (P := Pg) (elem := T.ki) n kfr (kks hl)).imp fun v h' ⟨s', i, e, v', g, l⟩ => ⟨s', i, e, v'.nd, g, l⟩
theorem kid {h : AH} {n : Nat} (hn : n ≤ 1000000) : ∃ (s : Sl) (h' : AH), kb4 (n : Int) (n : Int) T.int (Pg.bytesOf T.int) [.int .i64 0] h = some (s, h') ∧ GF EI T.int h' Fp.no s (some h.blks.size) (List.replicate n 0) ∧ Grow h h' := by
 rw [khf rfl rfl (by rw [kis]; omega) (by omega), kim]
 refine ⟨_, _, rfl, ⟨by simp; omega, Fp.not_no, rfl, by simp, List.replicate n [.int .i64 0], T.int, ?_, .inl rfl, ?_⟩, Grow.push h _⟩
 ·have : (List.replicate n [AV.int .i64 0]).flatten = List.replicate n (AV.int .i64 0) := by
   clear hn
   induction n with
   | zero => rfl
   | succ n ih => rw [List.replicate_succ, List.flatten_cons, ih, List.replicate_succ]; rfl
  rw [this]
  exact AH.has_push h _ T.int
 ·clear hn
  induction n with
  | zero => exact .nil
  | succ n ih => exact .cons rfl ih
section
variable {h0 : AH} {S : Fp} {s s1 s2 s3 : Sl} {m : List (List Nd)} {t : Tb}
theorem kos {h : AH} (x : Nd) {a b : Nat} {parties : Int} {e1 e2 : TypeId} (B1 : h.has a [.int .i64 parties] e1) (B2 : h.has b [s1.v, s2.v, s3.v] e2) (n : TabAt h S s1 s2 s3 t) : Runs (go (.fn F.ku [.agg x.cells, .ptr (some (.new a 0)), .ptr (some (.new b 0))]) h) fun v h' => v = .bool (oddN parties t.cols.length x) ∧ Grow h h' := by
 show Runs (go (.fn F.ku [.agg [.bool x.leaf, .int .i64 x.weight, .int .i64 x.party, .int .i64 x.feature, .int .i64 x.cut, .int .i64 x.left, .int .i64 x.right], .ptr (some (.new a 0)), .ptr (some (.new b 0))]) h) _
 rw [kn7]
 refine Runs.new fun h2 b2 g2 => ?_
 have B1 := g2.has B1
 have B2 := g2.has B2
 have l := n.cols.len
 unfold oddN
 refine Runs.step (b2.rd 0 rfl rfl) (Runs.cond (fun c => ?_) (fun c => Runs.ret ⟨by rw [c]; rfl, g2⟩))
 refine Runs.step (b2.rd 2 rfl (kb _ _)) (Runs.step rfl (Runs.step (B1.rd0 rfl (kb _ _)) (Runs.cond (fun c2 => Runs.ret ⟨by rw [c, c2]; rfl, g2⟩) (fun c2 => ?_))))
 refine Runs.step (b2.rd 2 rfl (kb _ _)) (Runs.cond (fun c3 => ?_) (fun c3 => Runs.ret ⟨by rw [c, c2, c3]; rfl, g2⟩))
 refine Runs.step (b2.rd 3 rfl (kb _ _)) (Runs.step rfl (Runs.step (B2.rd 2 rfl (asSl_v _)) (Runs.ret ⟨by rw [c, c2, c3, l]; rfl, g2⟩)))
theorem km0 {l : List Nd} {u : Sl} (nl : Sq Ef.nd h0 S u l) {S2 : Fp} {a b : Nat} {parties : Int} {e1 e2 : TypeId} (B1 : h0.has a [.int .i64 parties] e1) (B2 : h0.has b [s1.v, s2.v, s3.v] e2) (n : TabAt h0 S2 s1 s2 s3 t) :
  Runs (go (.fn F.kfw [u.v, .func (.func F.ku) [] [.ptr (some (.new a 0)), .ptr (some (.new b 0))]]) h0) fun v h' => v = .bool (l.any (oddN parties t.cols.length)) ∧ Grow h0 h' := by
 rw [kl1]
 refine Runs.contains (xs := l) ?_
 rw [kjf, nl.len]
 refine kez (n := l.length) (G := fun z h => go (.pt F.kcy Td.kdk [(0, u.v), (1, .func (.func F.ku) [] [.ptr (some (.new a 0)), .ptr (some (.new b 0))]), (7, .int .i64 (l.length : Int)), (8, .int .i64 z)]) h) (fun i h P hi g hT hF => ?_) (fun h g => ?_) l.length 0 (by omega) (Grow.refl h0) (fun j hj => by omega)
 ·obtain ⟨r, e, f0, f1, f2, f3, f4, f5, f6⟩ := (nl.grow g).nd hi
  rw [List.getElem?_eq_getElem hi] at hT hF
  simp only [Option.any_some] at hT hF
  show Runs (go _ _) _
  rw [kgy]
  refine Runs.ifT (decide_eq_true (by omega)) (Runs.step e (Runs.step f0 (Runs.step f1 (Runs.step f2 (Runs.step f3 (Runs.step f4 (Runs.step f5 (Runs.step f6 ?_))))))))
  refine (kos l[i] (g.has B1) (g.has B2) (n.grow g)).call fun v h' ⟨ev, g'⟩ => ?_
  subst ev
  refine Runs.step (seen rfl) ?_
  rw [kn (by have := nl.short; omega)]
  exact Runs.cond (fun c => Runs.ret (hT _ (g.trans g') c)) fun c => hF _ (g.trans g') c
 ·rw [kgy, condF (decide_eq_false (by omega))]
def NewP (ty : TypeId) (h : AH) (S0 : Fp) (m : List (List Nd)) (parties : Int) (t : Tb) (v : AV) (h' : AH) : Prop :=
 Grow h h' ∧ ((newE m parties t ≠ 0 ∧ v = .tup [.ptr none, .int .i64 (newE m parties t)]) ∨
 (newE m parties t = 0 ∧ ∃ (i j : Nat) (S : Fp), v = .tup [.ptr (some (.new i 0)), .int .i64 0] ∧ WalkAt ty h' S i j (Wk.init m t).go ∧ (Wk.init m t).Ok ∧ h.blks.size ≤ i ∧ h.blks.size ≤ j ∧ i < h'.blks.size ∧ j < h'.blks.size ∧ ∀ k, S k → k < h'.blks.size ∧ (S0 k ∨ h.blks.size ≤ k)))
theorem kkt {parties : Int} (hm : modR m = true) (ht : tabR t = true) (hp : ¬ (parties < 1 ∨ parties > 16)) {hb : AH} (g0 : Grow h0 hb) (n : Sq EM h0 S s m) (nt : TabAt h0 S s1 s2 s3 t) (hS : ∀ k, S k → k < h0.blks.size) {a b i j : Nat} (hi : h0.blks.size ≤ i) (hib : hb.blks.size = i + 1) (hj : h0.blks.size ≤ j) (hjb : j < i) (hai : a ≠ i) (hbi : b ≠ i) (B1 : hb.has a [.int .i64 parties] T.int) (B2 : hb.has b [s1.v, s2.v, s3.v] T.kr) {s7 : Sl} (v7 : GF EI T.int hb Fp.no s7 (some j) (List.replicate t.ids.length 0)) :
  ∀ (k z : Nat), z + k = m.length → ∀ {h : AH} {s0 : Sl} {oi : Option Nat} {S0 : Fp}, Md (fun x => x = i) hb h → h.has i (Wk.cells (Wk.init m t) s0 s1 s2 s3 s7) T.kbd → GF EM T.kx h S0 s0 oi (m.take z) → (∀ x, S0 x → i < x ∧ x < h.blks.size) → (∀ x, oi = some x → i < x) → ((m.take z).any fun l => l.any (oddN parties t.cols.length)) = false →
  Runs (go (.pt F.kb7 Td.kex [(8, .func (.func F.ku) [] [.ptr (some (.new a 0)), .ptr (some (.new b 0))]), (9, .ptr (some (.new i 0))), (37, s.v), (38, .int .i64 (m.length : Int)), (39, .int .i64 (z : Int))]) h) (NewP T.kbd h0 S m parties t) := by
 have h16 := kc0 hm
 have up : ∀ {h : AH}, Md (fun x => x = i) hb h → Grow h0 h := fun {h} q => g0.thenM q |>.grow fun x hx e => by subst e; omega
 intro k
 induction k with
 | zero =>
  intro z hz h s0 oi S0 md B v hS0 hoi ha
  have hz : z = m.length := by omega
  subst hz
  rw [List.take_length] at v ha
  have g := up md
  rw [kif]
  refine Runs.ifF (decide_eq_false (by omega)) ?_
  have ok := Wk.init_ok hm ht ha
  have W : WalkAt T.kbd h (Fp.or S (Fp.or (Fp.opt oi) S0)) i j (Wk.init m t) := by
   refine ⟨s0, s1, s2, s3, s7, B, v.sq.mono fun _ x => .inr x, ⟨(nt.ids.grow g).mono fun _ x => .inl x, (nt.bins.grow g).mono fun _ x => .inl x, (nt.cols.grow g).mono fun _ x => .inl x⟩, GF.md md Dis.no.symm v7 fun k e => by cases e; omega, fun x => ?_, fun x => ?_, by omega⟩
   ·rcases x with x | x | x
    ·have := hS _ x; omega
    ·have := hoi _ x; omega
    ·have := hS0 _ x; omega
   ·rcases x with x | x | x
    ·have := hS _ x; omega
    ·have := hoi _ x; omega
    ·have := hS0 _ x; omega
  rw [kkj]
  refine (koi _ W ok (Nat.le_refl _)).call fun _ h1 ⟨e, W1, m1⟩ => ?_
  subst e
  have he : newE m parties t = 0 := by
   unfold newE
   rw [if_neg (by rw [hm]; simpa using hp), if_neg (by rw [ht]; simp), ha, if_neg (by simp)]
  have sz := m1.size
  have s1' := md.size
  refine Runs.step rfl (Runs.ret ⟨(g.md (fun x => x = i ∨ x = j)).trans m1 |>.grow fun x hx e => by rcases e with rfl | rfl <;> omega, .inr ⟨he, i, j, _, rfl, W1, ok, hi, hj, by dsimp only; omega, by dsimp only; omega, fun x hx => ?_⟩⟩)
  dsimp only
  rcases hx with hx | hx | hx
  ·have := hS _ hx; have := g.size; exact ⟨by omega, .inl hx⟩
  ·have := v.lt
   have hx : oi = some x := hx
   have h2 := hoi x hx
   rw [hx] at this
   have this : x < h.blks.size := this
   exact ⟨by omega, .inr (by omega)⟩
  ·have := hS0 _ hx; exact ⟨by omega, .inr (by omega)⟩
 | succ k ih =>
  intro z hz h s0 oi S0 md B v hS0 hoi ha
  have hlt : z < m.length := by omega
  have g := up md
  obtain ⟨r, s', e1, -, e2, nl⟩ := (n.grow g).sl hlt
  rw [kif]
  refine Runs.ifT (decide_eq_true (by omega)) (Runs.step e1 (Runs.step e2 ?_))
  refine Runs.new fun h1 b1 g1 => Runs.puts b1 rfl fun h2 b2 u2 => ?_
  have g2 : Grow h h2 := g1.updr (Nat.le_refl _) u2
  refine Runs.step (b2.rd 0 rfl (asSl_v _)) ?_
  have a2 := g2.has (md.has B1 (by omega))
  have b2' := g2.has (md.has B2 (by omega))
  refine (km0 (nl.grow g2) a2 b2' (nt.grow (g.trans g2))).call fun v3 h3 ⟨e, g3⟩ => ?_
  subst e
  have g23 := g2.trans g3
  have ht' : m.take (z + 1) = m.take z ++ [m[z]] := List.take_succ_eq_append_getElem hlt
  refine Runs.step (seen rfl) (Runs.cond (fun c => ?_) (fun c => ?_))
  ·have hany : (m.any fun l => l.any (oddN parties t.cols.length)) = true := by
    rw [List.any_eq_true]
    exact ⟨m[z], List.getElem_mem hlt, c⟩
   have he : newE m parties t = 1 := by
    unfold newE
    rw [if_neg (by rw [hm]; simpa using hp), if_neg (by rw [ht]; simp), if_pos hany]
   exact Runs.ret ⟨g.trans g23, .inl ⟨by rw [he]; decide, by rw [he]⟩⟩
  have B3 := g23.has B
  refine Runs.step (B3.rd 0 rfl (asSl_v _)) (Runs.step ((g3.has b2).rd 0 rfl (asSl_v _)) ?_)
  obtain ⟨h63a, h63, -⟩ := kcp hm hlt
  refine (kld (nl.grow g23) (by omega)).call fun v4 h4 ⟨s4, o4, e, v4, g4, l4⟩ => ?_
  subst e
  refine Runs.step (seen (asSl_v _)) (Runs.when (g4.same B3 0 1) ?_)
  refine Runs.new fun h5 b5 g5 => Runs.when (g5.same (g4.has B3) 0 1) ?_
  have g45 := g4.trans g5
  have G := g23.trans g45
  refine Runs.step (kmq (n := 1) b5 (by rw [kf6]; rfl)) ?_
  have hsz := md.size
  have hi3 : i < h3.blks.size := by have := g23.size; omega
  have o4i : ∀ x, o4 = some x → h3.blks.size ≤ x := fun x hx => by rw [hx] at l4; exact l4
  have vlt := v.lt
  obtain ⟨s6, h6, e6, v6, u6⟩ := (v.grow G).push (P := Pg) (T := Fp.opt o4) (cs := [s4.v]) (x := m[z]) ⟨s4, rfl, ((v4.grow g5).sq).mono fun x hx => hx.elim id False.elim⟩ (by
   cases oi with
   | none => trivial
   | some x =>
    intro hx
    have h1 := o4i x hx
    have h2 : x < h.blks.size := vlt
    have := g23.size
    omega) (kng (by rw [List.length_take]; omega))
  refine Runs.step e6 (Runs.step (asSl_v _) ?_)
  have u6m : Md (fun x => i < x) h5 h6 := UpdO.md u6 hoi
  have B6 := u6m.has (G.has B) (Nat.lt_irrefl _)
  refine Runs.putAt B6 (cs' := Wk.cells (Wk.init m t) s6 s1 s2 s3 s7) (by simp) (by simp) fun h7 b7 u7 => ?_
  have hlt5 : i < h5.blks.size := by have := g45.size; omega
  have md7 : Md (fun x => x = i) hb h7 := ((md.thenG G).next u6m fun x hx hx2 => by
   have hx2 : i < x := hx2
   omega).trans (u7.md rfl)
  have sz5 := g45.size
  have sz3 := g23.size
  have sz6 := u6m.size
  have sz7 := u7.size
  dsimp only at sz7
  rw [kn (by omega)]
  have nS : ∀ x, (Fp.or S0 (Fp.opt o4) x ∧ x < h5.blks.size) → i < x := fun x hx => by
   rcases hx.1 with y | y
   ·exact (hS0 x y).1
   ·have := o4i x y
    omega
  refine ih (z + 1) (by omega) md7 b7 (S0 := fun x => Fp.or S0 (Fp.opt o4) x ∧ x < h5.blks.size) (oi := some h5.blks.size) ?_ (fun x hx => ⟨nS x hx, by have := hx.2; omega⟩) (fun x hx => by cases hx; omega) ?_
  ·rw [ht']
   exact GF.updo v6 (i := some i) (fun hx => Nat.lt_irrefl _ (nS i hx)) (show h5.blks.size ≠ i by omega) u7
  ·rw [ht', List.any_append, ha]
   simp [c]
end
end Go.Ab

/- squeezed -/
set_option linter.unusedVariables false
set_option linter.unusedSimpArgs false
set_option maxRecDepth 10000
namespace Go.Ab
open Go.Proofs
theorem Runs.new1 {P : AV → AH → Prop} {h : AH} {cs : List AV} {e : TypeId} {K : Ref → AH → Option (AV × AH)} (H : ∀ h', h'.has h.blks.size cs e → Grow h h' → h'.blks.size = h.blks.size + 1 → Runs (K (.new h.blks.size 0) h') P) : Runs (newK h (.cells cs e) K) P :=
 H _ (AH.has_push h cs e) (Grow.push h _) (AH.push_size h _)
section
variable {h0 : AH} {S : Fp} {s s1 s2 s3 : Sl} {m : List (List Nd)} {t : Tb}
theorem kik (n : Sq EM h0 S s m) (nt : TabAt h0 S s1 s2 s3 t) (hS : ∀ k, S k → k < h0.blks.size) (parties : Int) : Runs (go (.fn F.kb7 [.agg [s.v], .int .i64 parties, .agg [s1.v, s2.v, s3.v]]) h0) (NewP T.kbd h0 S m parties t) := by
 rw [kjp]
 refine Runs.new fun h1 b1 g1 => Runs.new fun h2 b2 g2 => Runs.new fun h3 b3 g3 => ?_
 have B1 := (g2.trans g3).has b1
 have B2 := g3.has b2
 have G3 := g1.trans (g2.trans g3)
 refine Runs.step (B1.rd 0 rfl (asSl_v _)) ?_
 refine (koj (n.grow G3)).call fun _ h4 ⟨e, g4⟩ => ?_
 subst e
 have G4 := G3.trans g4
 refine Runs.step (seen rfl) (Runs.cond (fun c => ?_) (fun c => ?_))
 ·have hm : modR m = false := by simpa using c
  have he : newE m parties t = 1 := by unfold newE; rw [if_pos (.inl hm)]
  exact Runs.ret ⟨G4, .inl ⟨by rw [he]; decide, by rw [he]⟩⟩
 have hm : modR m = true := by simpa using c
 refine Runs.step ((g4.has B2).rd0 rfl (kb _ _)) (Runs.cond (fun c2 => ?_) (fun c2 => ?_))
 ·have he : newE m parties t = 1 := by unfold newE; rw [if_pos (.inr (.inl (by simpa using c2)))]
  exact Runs.ret ⟨G4, .inl ⟨by rw [he]; decide, by rw [he]⟩⟩
 refine Runs.step ((g4.has B2).rd0 rfl (kb _ _)) (Runs.cond (fun c3 => ?_) (fun c3 => ?_))
 ·have he : newE m parties t = 1 := by unfold newE; rw [if_pos (.inr (.inr (by simpa using c3)))]
  exact Runs.ret ⟨G4, .inl ⟨by rw [he]; decide, by rw [he]⟩⟩
 have hp : ¬ (parties < 1 ∨ parties > 16) := by simp at c2 c3; omega
 have B3 := g4.has b3
 refine Runs.step (B3.rd 0 rfl (asSl_v _)) (Runs.step (B3.rd 1 rfl (asSl_v _)) (Runs.step (B3.rd 2 rfl (asSl_v _)) ?_))
 refine (ki9 (nt.grow G4)).call fun _ h5 ⟨e, g5⟩ => ?_
 subst e
 have G5 := G4.trans g5
 refine Runs.step (seen rfl) (Runs.cond (fun c => ?_) (fun c => ?_))
 ·have ht : tabR t = false := by simpa using c
  have he : newE m parties t = 20 := by unfold newE; rw [if_neg (by rw [hm]; simpa using hp), if_pos ht]
  exact Runs.ret ⟨G5, .inl ⟨by rw [he]; decide, by rw [he]⟩⟩
 have ht : tabR t = true := by simpa using c
 have B5 := g5.has B3
 have h256 := kdf ht
 refine Runs.step (B5.rd 0 rfl (asSl_v _)) (Runs.step (B5.rd 1 rfl (asSl_v _)) (Runs.step (B5.rd 2 rfl (asSl_v _)) (Runs.step (B5.rd 0 rfl (asSl_v _)) ?_)))
 rw [nt.ids.len]
 obtain ⟨s7, h6, e6, v6, g6⟩ := kid (h := h5) (n := t.ids.length) (by omega)
 refine Runs.step e6 (Runs.when (g6.same0 B5 0 3) ?_)
 refine Runs.new1 fun h7 b7 g7 k7 => ?_
 have g37 := (g4.trans g5).trans (g6.trans g7)
 refine Runs.step ((g37.has B1).rd 0 rfl (asSl_v _)) ?_
 rw [n.len]
 have z1 := b1.lt
 have z2 := b2.lt
 have z3 := b3.lt
 have k1 := g1.size
 have k2 := g2.size
 have k3 := g3.size
 have k4 := g4.size
 have k5 := g5.size
 have k6 : h5.blks.size < h6.blks.size := v6.lt
 dsimp only at z1 z2 z3 k1 k2 k3 k4 k5 k6 k7 ⊢
 exact kkt hm ht hp (G5.trans (g6.trans g7)) n nt hS (a := h1.blks.size) (b := h2.blks.size) (i := h6.blks.size) (j := h5.blks.size) (by omega) (by omega) (by omega) (by omega) (by omega) (by omega) (g37.has B2) ((g5.trans (g6.trans g7)).has B3) (v6.grow g7) m.length 0 (by omega) (S0 := Fp.no) (oi := none) (Md.refl _ _) b7 (GF.none _ _ _ _) (fun x hx => hx.elim) (fun x hx => by cases hx) rfl
theorem kl9 {parties : Int} {P : AV → AH → Prop} (hl16 : m.length ≤ 16) (n : Sq EM h0 S s m) (nt : TabAt h0 S s1 s2 s3 t) {a b : Nat} (B1 : h0.has a [s.v] T.kw) (B2 : h0.has b [s1.v, s2.v, s3.v] T.kr) {z : Nat} (hz : z < m.length) (hl : m[z].length ≤ 63)
  (bad : ∀ h', Grow h0 h' → m[z].any (oddN parties t.cols.length) = true → P (.tup [.ptr none, .int .i64 1]) h') (next : ∀ h', Grow h0 h' → m[z].any (oddN parties t.cols.length) = false → Runs (go (.pt F.kv Td.kc7 [(1, .int .i64 parties), (3, .ptr (some (.new a 0))), (5, .ptr (some (.new b 0))), (10, .int .i64 ((z + 1 : Nat) : Int))]) h') P) :
  ∀ (k i : Nat), i + k = m[z].length → ∀ {h : AH}, Grow h0 h → (∀ q (hq : q < m[z].length), q < i → oddN parties t.cols.length m[z][q] = false) →
  Runs (go (.pt F.kv Td.kck [(1, .int .i64 parties), (3, .ptr (some (.new a 0))), (5, .ptr (some (.new b 0))), (10, .int .i64 (z : Int)), (11, .int .i64 (i : Int))]) h) P := by
 intro k
 induction k with
 | zero =>
  intro i hi h g hp
  obtain ⟨r, s', e1, -, e2, nl⟩ := (n.grow g).sl hz
  rw [khs]
  refine Runs.step ((g.has B1).rd 0 rfl (asSl_v _)) (Runs.step e1 (Runs.step e2 ?_))
  rw [nl.len]
  refine Runs.ifF (decide_eq_false (by omega)) ?_
  rw [kn (by omega)]
  refine next h g ?_
  rw [List.any_eq_false]
  intro x hx
  obtain ⟨q, hq, rfl⟩ := List.getElem_of_mem hx
  rw [hp q hq (by omega)]
  simp
 | succ k ih =>
  intro i hi h g hp
  have hlt : i < m[z].length := by omega
  obtain ⟨r, s', e1, -, e2, nl⟩ := (n.grow g).sl hz
  obtain ⟨r2, e3, f0, f1, f2, f3, f4, f5, f6⟩ := nl.nd hlt
  rw [khs]
  refine Runs.step ((g.has B1).rd 0 rfl (asSl_v _)) (Runs.step e1 (Runs.step e2 ?_))
  rw [nl.len]
  refine Runs.ifT (decide_eq_true (by omega)) (Runs.step ((g.has B1).rd 0 rfl (asSl_v _)) (Runs.step e1 (Runs.step e2 (Runs.step e3 ?_))))
  refine Runs.step f0 (Runs.step f1 (Runs.step f2 (Runs.step f3 (Runs.step f4 (Runs.step f5 (Runs.step f6 ?_))))))
  refine Runs.new fun h1 b1 g1 => Runs.puts b1 rfl fun h2 b2 u2 => ?_
  have G : Grow h0 h2 := g.trans (g1.updr (Nat.le_refl _) u2)
  rw [kn (by omega)]
  have yes : oddN parties t.cols.length m[z][i] = true → P (.tup [.ptr none, .int .i64 1]) h2 := fun e => bad _ G (by rw [List.any_eq_true]; exact ⟨_, List.getElem_mem hlt, e⟩)
  have no : oddN parties t.cols.length m[z][i] = false → Runs (go (.pt F.kv Td.kck [(1, .int .i64 parties), (3, .ptr (some (.new a 0))), (5, .ptr (some (.new b 0))), (10, .int .i64 (z : Int)), (11, .int .i64 ((i + 1 : Nat) : Int))]) h2) P := fun e => ih (i + 1) (by omega) G fun q hq hqi => by
   by_cases h1 : q = i
   ·subst h1; exact e
   ·exact hp q hq (by omega)
  unfold oddN at yes no
  refine Runs.step (b2.rd 0 rfl rfl) (Runs.cond (fun c => ?_) (fun c => no (by rw [c]; rfl)))
  refine Runs.step (b2.rd 2 rfl (kb _ _)) (Runs.cond (fun c2 => Runs.ret (yes (by rw [c, c2]; rfl))) (fun c2 => ?_))
  refine Runs.step (b2.rd 2 rfl (kb _ _)) (Runs.cond (fun c3 => ?_) (fun c3 => no (by rw [c, c2, c3]; rfl)))
  refine Runs.step (b2.rd 3 rfl (kb _ _)) (Runs.step ((G.has B2).rd 2 rfl (asSl_v _)) ?_)
  rw [nt.cols.len]
  exact Runs.cond (fun c4 => Runs.ret (yes (by rw [c, c2, c3, c4]; rfl))) (fun c4 => no (by rw [c, c2, c3, c4]; rfl))
theorem kon {parties : Int} (hm : modR m = true) (ht : tabR t = true) (hp : ¬ (parties < 1 ∨ parties > 16)) {hx : AH} (g0 : Grow hx h0) (n : Sq EM h0 S s m) (nt : TabAt h0 S s1 s2 s3 t) (hS : ∀ k, S k → k < h0.blks.size) {a b : Nat} (B1 : h0.has a [s.v] T.kw) (B2 : h0.has b [s1.v, s2.v, s3.v] T.kr) :
  ∀ (k z : Nat), z + k = m.length → ∀ {h : AH}, Grow h0 h → ((m.take z).any fun l => l.any (oddN parties t.cols.length)) = false →
  Runs (go (.pt F.kv Td.kc7 [(1, .int .i64 parties), (3, .ptr (some (.new a 0))), (5, .ptr (some (.new b 0))), (10, .int .i64 (z : Int))]) h) (NewP T.kbz hx S m parties t) := by
 have h16 := kc0 hm
 have h256 := kdf ht
 intro k
 induction k with
 | zero =>
  intro z hz h g ha
  have hz : z = m.length := by omega
  subst hz
  rw [List.take_length] at ha
  have b1 := g.has B1
  have b2 := g.has B2
  rw [kib]
  refine Runs.step (b1.rd 0 rfl (asSl_v _)) ?_
  rw [n.len]
  refine Runs.ifF (decide_eq_false (by omega)) (Runs.step (b1.rd 0 rfl (asSl_v _)) (Runs.step (b2.rd 0 rfl (asSl_v _)) (Runs.step (b2.rd 1 rfl (asSl_v _)) (Runs.step (b2.rd 2 rfl (asSl_v _)) (Runs.step (b2.rd 0 rfl (asSl_v _)) ?_)))))
  rw [nt.ids.len]
  obtain ⟨s7, h6, e6, v6, g6⟩ := kid (h := h) (n := t.ids.length) (by omega)
  refine Runs.step e6 (Runs.when (g6.same0 b2 0 3) (Runs.when (g6.same0 b1 0 1) ?_))
  refine Runs.new1 fun h7 b7 g7 k7 => ?_
  have ok := Wk.init_ok hm ht ha
  have k6 : h.blks.size < h6.blks.size := v6.lt
  have k1 := g.size
  have G := g.trans (g6.trans g7)
  dsimp only at k6 k7 ⊢
  have W : WalkAt T.kbz h7 S h6.blks.size h.blks.size (Wk.init m t) := ⟨s, s1, s2, s3, s7, b7, n.grow G, nt.grow G, v6.grow g7, fun x => by have := hS _ x; omega, fun x => by have := hS _ x; omega, by omega⟩
  rw [klc]
  refine (klz _ W ok (Nat.le_refl _)).call fun _ h8 ⟨e, W1, m1⟩ => ?_
  subst e
  have he : newE m parties t = 0 := by
   unfold newE
   rw [if_neg (by rw [hm]; simpa using hp), if_neg (by rw [ht]; simp), ha, if_neg (by simp)]
  have sz := m1.size
  have k0 := g0.size
  refine Runs.step rfl (Runs.ret ⟨((g0.trans G).md (fun x => x = h6.blks.size ∨ x = h.blks.size)).trans m1 |>.grow fun x hx e => by rcases e with rfl | rfl <;> omega, .inr ⟨he, _, _, _, rfl, W1, ok, by omega, by omega, by dsimp only; omega, by dsimp only; omega, fun x hx => ?_⟩⟩)
  have := hS _ hx
  dsimp only
  exact ⟨by omega, .inl hx⟩
 | succ k ih =>
  intro z hz h g ha
  have hlt : z < m.length := by omega
  have b1 := g.has B1
  rw [kib]
  refine Runs.step (b1.rd 0 rfl (asSl_v _)) ?_
  rw [n.len]
  refine Runs.ifT (decide_eq_true (by omega)) ?_
  have ht' : m.take (z + 1) = m.take z ++ [m[z]] := List.take_succ_eq_append_getElem hlt
  refine kl9 h16 n nt B1 B2 hlt (kcp hm hlt).2.1 (fun h' g' c => ?_) (fun h' g' c => ih (z + 1) (by omega) g' (by rw [ht', List.any_append, ha]; simp [c])) m[z].length 0 (by omega) g fun q hq h => by omega
  have hany : (m.any fun l => l.any (oddN parties t.cols.length)) = true := by
   rw [List.any_eq_true]
   exact ⟨m[z], List.getElem_mem hlt, c⟩
  have he : newE m parties t = 1 := by
   unfold newE
   rw [if_neg (by rw [hm]; simpa using hp), if_neg (by rw [ht]; simp), if_pos hany]
  exact ⟨g0.trans g', .inl ⟨by rw [he]; decide, by rw [he]⟩⟩
theorem kj6 (n : Sq EM h0 S s m) (nt : TabAt h0 S s1 s2 s3 t) (hS : ∀ k, S k → k < h0.blks.size) (parties : Int) : Runs (go (.fn F.kv [.agg [s.v], .int .i64 parties, .agg [s1.v, s2.v, s3.v]]) h0) (NewP T.kbz h0 S m parties t) := by
 rw [kl3]
 refine Runs.new fun h1 b1 g1 => Runs.new fun h2 b2 g2 => ?_
 have B1 := g2.has b1
 have G2 := g1.trans g2
 refine Runs.step (B1.rd 0 rfl (asSl_v _)) ?_
 refine (kom (n.grow G2)).call fun _ h4 ⟨e, g4⟩ => ?_
 subst e
 have G4 := G2.trans g4
 refine Runs.step (seen rfl) (Runs.cond (fun c => ?_) (fun c => ?_))
 ·have hm : modR m = false := by simpa using c
  have he : newE m parties t = 1 := by unfold newE; rw [if_pos (.inl hm)]
  exact Runs.ret ⟨G4, .inl ⟨by rw [he]; decide, by rw [he]⟩⟩
 have hm : modR m = true := by simpa using c
 refine Runs.cond (fun c2 => ?_) (fun c2 => ?_)
 ·have he : newE m parties t = 1 := by unfold newE; rw [if_pos (.inr (.inl (by simpa using c2)))]
  exact Runs.ret ⟨G4, .inl ⟨by rw [he]; decide, by rw [he]⟩⟩
 refine Runs.cond (fun c3 => ?_) (fun c3 => ?_)
 ·have he : newE m parties t = 1 := by unfold newE; rw [if_pos (.inr (.inr (by simpa using c3)))]
  exact Runs.ret ⟨G4, .inl ⟨by rw [he]; decide, by rw [he]⟩⟩
 have hp : ¬ (parties < 1 ∨ parties > 16) := by simp at c2 c3; omega
 have B3 := g4.has b2
 refine Runs.step (B3.rd 0 rfl (asSl_v _)) (Runs.step (B3.rd 1 rfl (asSl_v _)) (Runs.step (B3.rd 2 rfl (asSl_v _)) ?_))
 refine (kla (nt.grow G4)).call fun _ h5 ⟨e, g5⟩ => ?_
 subst e
 have G5 := G4.trans g5
 refine Runs.step (seen rfl) (Runs.cond (fun c => ?_) (fun c => ?_))
 ·have ht : tabR t = false := by simpa using c
  have he : newE m parties t = 20 := by unfold newE; rw [if_neg (by rw [hm]; simpa using hp), if_pos ht]
  exact Runs.ret ⟨G5, .inl ⟨by rw [he]; decide, by rw [he]⟩⟩
 have ht : tabR t = true := by simpa using c
 exact kon hm ht hp G5 (n.grow G5) (nt.grow G5) (fun k hk => by have := hS k hk; have := G5.size; omega) ((g4.trans g5).has B1) (g5.has B3) m.length 0 (by omega) (Grow.refl _) rfl
end
end Go.Ab

/- squeezed -/
set_option linter.unusedVariables false
set_option linter.unusedSimpArgs false
set_option maxRecDepth 10000
namespace Go.Ab
open Go.Proofs
section
variable {h0 : AH} {S S' : Fp} {s t : Sl}
end
theorem ke6 {h : AH} {cs : List AV} (a : ArgT Pg h T.kcq cs) : ∃ (s : Sl) (xs : List Int), cs = [s.v] ∧ Sq EI h Fp.no s xs := kl2 Fp.no kmu kbw kfe a
theorem tab_of {h : AH} {x : AV} (a : ArgV Pg h T.kr x) : ∃ (s1 s2 s3 : Sl) (t : Tb), x = .agg [s1.v, s2.v, s3.v] ∧ TabAt h Fp.no s1 s2 s3 t := by
 unfold ArgV at a
 rw [khp] at a
 obtain ⟨cs, rfl, t⟩ := a
 obtain ⟨hl, hf⟩ := t.struct khp
 rw [kle] at hl
 match cs, hl with
 | [x0, x1, x2], _ =>
  simp [kgt, kmo] at hf
  obtain ⟨h0, h1, h2⟩ := hf
  obtain ⟨s1, xs, e0, n0⟩ := ke6 h0
  obtain ⟨s2, ys, e1, n1⟩ := ke6 h1
  obtain ⟨s3, zs, e2, n2⟩ := Sq.of_arg (E := Ef.seq EI) (S := Fp.no) km1 kgt (fun es t => by
   obtain ⟨s, l, e, n⟩ := ke6 t
   exact ⟨l, s, e, n⟩) h2
  cases e0; cases e1; cases e2
  exact ⟨s1, s2, s3, ⟨xs, ys, zs⟩, rfl, n0, n1, n2⟩
theorem kml {h : AH} {cs : List AV} (a : ArgT Pg h T.ki cs) : ∃ x : Nd, cs = x.cells := by
 obtain ⟨hl, hf⟩ := a.struct kjx
 rw [kfr] at hl
 match cs, hl with
 | [x0, x1, x2, x3, x4, x5, x6], _ =>
  simp [kfe, knp] at hf
  obtain ⟨h0, h1, h2, h3, h4, h5, h6⟩ := hf
  obtain ⟨b, e0⟩ := h0.bool kkd
  obtain ⟨y1, e1, _⟩ := h1.int kbw
  obtain ⟨y2, e2, _⟩ := h2.int kbw
  obtain ⟨y3, e3, _⟩ := h3.int kbw
  obtain ⟨y4, e4, _⟩ := h4.int kbw
  obtain ⟨y5, e5, _⟩ := h5.int kbw
  obtain ⟨y6, e6, _⟩ := h6.int kbw
  cases e0; cases e1; cases e2; cases e3; cases e4; cases e5; cases e6
  exact ⟨⟨b, y1, y2, y3, y4, y5, y6⟩, rfl⟩
theorem kky {h : AH} {x : AV} (a : ArgV Pg h T.kw x) : ∃ (s : Sl) (m : List (List Nd)), x = .agg [s.v] ∧ Sq EM h Fp.no s m := by
 unfold ArgV at a
 rw [kha] at a
 obtain ⟨cs, rfl, t⟩ := a
 obtain ⟨hl, hf⟩ := t.struct kha
 rw [kms] at hl
 match cs, hl with
 | [x0], _ =>
  simp [knk] at hf
  obtain ⟨s, m, e, n⟩ := Sq.of_arg (E := EM) (S := Fp.no) kiz kf6 (fun es t => by
   obtain ⟨hl, hf⟩ := t.struct kjo
   rw [kf6] at hl
   match es, hl with
   | [y0], _ =>
    simp [ki3] at hf
    obtain ⟨s', l, e, n⟩ := Sq.of_arg (E := Ef.nd) (S := Fp.no) kno kfr (fun es t => kml t) hf
    cases e
    exact ⟨l, s', rfl, n⟩) hf
  cases e
  exact ⟨s, m, rfl, n⟩
theorem kkc {h0 : AH} {S : Fp} {s s1 s2 s3 : Sl} {m : List (List Nd)} {t : Tb} (n : Sq EM h0 S s m) {a b : Nat} (B1 : h0.has a [s.v] T.kw) (B2 : h0.has b [s1.v, s2.v, s3.v] T.kr) : ∀ (k i : Nat), i + k = 20 → ∀ z : Int,
  Runs (go (.pt F.kb8 Td.kdl [(2, .ptr (some (.new a 0))), (3, .ptr (some (.new b 0))), (5, .int .i64 z), (6, .int .i64 (i : Int))]) h0) fun v h' => (∃ r : Bool, v = .bool r) ∧ h' = h0 := by
 intro k
 induction k with
 | zero =>
  intro i hi z
  rw [kh2]
  refine Runs.step (B1.rd 0 rfl (asSl_v _)) (Runs.cond (fun c => Runs.ifF (decide_eq_false (by omega)) ?_) (fun c => ?_))
  all_goals
   repeat' first
    | refine Runs.step (AH.has.rd (by assumption) _ rfl (asSl_v _)) ?_
    | refine Runs.cond (fun k => ?_) (fun k => ?_)
    | exact Runs.ret ⟨⟨_, rfl⟩, rfl⟩
 | succ k ih =>
  intro i hi z
  rw [kh2]
  refine Runs.step (B1.rd 0 rfl (asSl_v _)) (Runs.cond (fun c => Runs.ifT (decide_eq_true (by omega)) ?_) (fun c => ?_))
  ·rw [n.len, decide_eq_true_eq] at c
   have hlt : i < m.length := by omega
   obtain ⟨r, s', e1, -, e2, nl⟩ := n.sl hlt
   refine Runs.step (B1.rd 0 rfl (asSl_v _)) (Runs.step e1 (Runs.step e2 ?_))
   rw [kn (by omega)]
   exact ih (i + 1) (by omega) _
  ·repeat' first
    | refine Runs.step (AH.has.rd (by assumption) _ rfl (asSl_v _)) ?_
    | refine Runs.cond (fun k => ?_) (fun k => ?_)
    | exact Runs.ret ⟨⟨_, rfl⟩, rfl⟩
theorem few_is {h0 : AH} {S : Fp} {s s1 s2 s3 : Sl} {m : List (List Nd)} (n : Sq EM h0 S s m) : Runs (go (.fn F.kb8 [.agg [s.v], .agg [s1.v, s2.v, s3.v]]) h0) fun v h' => (∃ r : Bool, v = .bool r) ∧ Grow h0 h' := by
 rw [klg]
 refine Runs.new fun h5 b5 g5 => Runs.new fun h6 b6 g6 => Runs.step (b6.rd 0 rfl (asSl_v _)) ?_
 exact (kkc (t := ⟨[], [], []⟩) (n.grow (g5.trans g6)) (g6.has b5) b6 20 0 (by omega) _).imp fun v h' ⟨a, b⟩ => ⟨a, by rw [b]; exact g5.trans g6⟩
def leaf3 : Nd := ⟨true, 3, 0, 0, 0, 0, 0⟩
theorem knj {h : AH} : Runs (go (.fn F.ke9 []) h) fun v h' => v = .bool true ∧ Grow h h' := by
 rw [kol]
 refine Runs.new1 fun h1 b1 g1 k1 => Runs.new1 fun h2 b2 g2 k2 => Runs.new1 fun h3 b3 g3 k3 => ?_
 have n0 : Sq Ef.nd h1 (Fp.or (fun j => j = h.blks.size) Fp.no) ⟨some (.new h.blks.size 0), 1, .is 1⟩ [leaf3] := Sq.lit (E := Ef.nd) (rows := [leaf3.cells]) b1 (.cons rfl .nil) rfl
 have n1 : Sq EM h2 (Fp.or (fun j => j = h1.blks.size) (Fp.or (fun j => j = h.blks.size) Fp.no)) ⟨some (.new h1.blks.size 0), 1, .is 1⟩ [[leaf3]] := Sq.lit (E := EM) (rows := [[(⟨some (.new h.blks.size 0), 1, .is 1⟩ : Sl).v]]) b2 (.cons ⟨_, rfl, n0.grow g2⟩ .nil) rfl
 have n2 : Sq EI h3 (Fp.or (fun j => j = h2.blks.size) Fp.no) ⟨some (.new h2.blks.size 0), 2, .is 2⟩ [5, 6] := Sq.lit (E := EI) (rows := [[.int .i64 5], [.int .i64 6]]) b3 (.cons rfl (.cons rfl .nil)) rfl
 have z1 := b1.lt
 have z2 := b2.lt
 have z3 := b3.lt
 have nt : TabAt h3 (fun j => j < h3.blks.size) ⟨some (.new h2.blks.size 0), 2, .is 2⟩ nilS nilS ⟨[5, 6], [], []⟩ := ⟨n2.mono fun j hj => by rcases hj with rfl | hj; exact z3; exact hj.elim, Sq.nil _ _ _, Sq.nil _ _ _⟩
 have nm := (n1.grow g3).mono (T := fun j => j < h3.blks.size) fun j hj => by
  rcases hj with rfl | rfl | hj
  ·omega
  ·omega
  ·exact hj.elim
 refine (kik nm nt (fun k hk => hk) 1).call fun _ h4 ⟨g4, d⟩ => ?_
 have he : newE [[leaf3]] 1 ⟨[5, 6], [], []⟩ = 0 := by decide +kernel
 have hg : (Wk.init [[leaf3]] ⟨[5, 6], [], []⟩).go.sc = [3, 3] := by decide +kernel
 have G := g1.trans (g2.trans g3)
 rcases d with ⟨h1, _⟩ | ⟨_, i, j, S, rfl, W, ok, -⟩
 ·exact absurd he h1
 have ⟨o1, st, e1, e2⟩ := Wk.Ok.on _ ok (Nat.le_refl _)
 refine Runs.step rfl (Runs.step (seen rfl) (Runs.step (seen (kb _ _)) (Runs.ifF rfl (Runs.ifF rfl ?_))))
 refine (kkv W o1 st).call fun _ h5 ⟨s', k, e, v, g5⟩ => ?_
 subst e
 rw [hg] at v
 have hr : decide ((Wk.init [[leaf3]] ⟨[5, 6], [], []⟩).go.row < (Wk.init [[leaf3]] ⟨[5, 6], [], []⟩).go.t.ids.length) = false := by decide +kernel
 rw [hr]
 obtain ⟨r1, f1, f2⟩ := v.sq.int (i := 0) (by decide)
 obtain ⟨r2, f3, f4⟩ := v.sq.int (i := 1) (by decide)
 have hl := v.len
 refine Runs.step rfl (Runs.step (seen (asSl_v _)) (Runs.step (seen rfl) (Runs.ifT rfl ?_)))
 refine Runs.ifT (by rw [hl]; rfl) (Runs.step f1 (Runs.step f2 (Runs.ifT rfl (Runs.step f3 (Runs.step f4 (Runs.ret ⟨rfl, G.trans (g4.trans g5)⟩))))))
theorem PredictNews_law (h : AH) {x0 x1 x2 : AV} (z0 : ArgV Pg h T.kw x0) (z1 : ArgV Pg h T.int x1) (z2 : ArgV Pg h T.kr x2) : ∃ h', go (.fn F.kfm [x0, x1, x2]) h = some (.bool true, h') := by
 obtain ⟨s, m, rfl, n⟩ := kky z0
 obtain ⟨p, rfl⟩ : ∃ p : Int, x1 = .int .i64 p := by
  unfold ArgV at z1
  rw [kbw] at z1
  obtain ⟨p, e, _⟩ := ArgT.int kbw z1
  cases e
  exact ⟨p, rfl⟩
 obtain ⟨s1, s2, s3, t, rfl, nt⟩ := tab_of z2
 suffices H : Runs (go (.fn F.kfm [.agg [s.v], .int .i64 p, .agg [s1.v, s2.v, s3.v]]) h) fun v _ => v = .bool true by
  obtain ⟨_, h', e, rfl⟩ := H
  exact ⟨h', e⟩
 rw [kkx]
 refine Runs.new fun h1 b1 g1 => Runs.new fun h2 b2 g2 => ?_
 refine knj.call fun _ h3 ⟨e, g3⟩ => ?_
 subst e
 have B1 := (g2.trans g3).has b1
 have B2 := g3.has b2
 have G3 := g1.trans (g2.trans g3)
 refine Runs.step (seen rfl) ?_
 repeat refine Runs.step (AH.has.rd (by assumption) _ rfl (asSl_v _)) ?_
 refine (few_is (n.grow G3)).call fun _ h4 ⟨⟨r, e⟩, g4⟩ => ?_
 subst e
 have B1 := g4.has B1
 have B2 := g4.has B2
 have G4 := G3.trans g4
 refine Runs.step (seen rfl) (Runs.ifF rfl (Runs.cond (fun c => Runs.ret rfl) (fun c => ?_)))
 repeat refine Runs.step (AH.has.rd (by assumption) _ rfl (asSl_v _)) ?_
 refine (kik (n.grow G4) (nt.grow G4) (fun k hk => hk.elim) p).call fun v5 h5 ⟨g5, d5⟩ => ?_
 have B1 := g5.has B1
 have B2 := g5.has B2
 have G5 := G4.trans g5
 have A : ∃ q : Option Ref, v5 = .tup [.ptr q, .int .i64 (newE m p t)] ∧ (q.isNone = true ↔ newE m p t ≠ 0) := by
  rcases d5 with ⟨a, b⟩ | ⟨a, i, j, S, b, -⟩
  ·exact ⟨none, b, by simp [a]⟩
  ·exact ⟨some (.new i 0), by rw [b, a], by simp [a]⟩
 obtain ⟨q, rfl, hq⟩ := A
 refine Runs.step rfl (Runs.step (seen rfl) (Runs.step (seen (kb _ _)) ?_))
 repeat refine Runs.step (AH.has.rd (by assumption) _ rfl (asSl_v _)) ?_
 refine (kj6 (n.grow G5) (nt.grow G5) (fun k hk => hk.elim) p).call fun v6 h6 ⟨g6, d6⟩ => ?_
 have A : ∃ q : Option Ref, v6 = .tup [.ptr q, .int .i64 (newE m p t)] := by
  rcases d6 with ⟨a, b⟩ | ⟨a, i, j, S, b, -⟩
  ·exact ⟨none, b⟩
  ·exact ⟨some (.new i 0), by rw [b, a]⟩
 obtain ⟨q2, rfl⟩ := A
 refine Runs.step rfl (Runs.step (seen rfl) (Runs.step (seen (kb _ _)) (Runs.ifT (decide_eq_true rfl) (Runs.ret ?_))))
 cases hq' : q.isNone <;> grind
end Go.Ab
