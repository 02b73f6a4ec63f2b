/- squeezed -/
import Derived.Test.YtkcloajajkchiaaPE2

set_option linter.unusedVariables false
set_option linter.unusedSimpArgs false
set_option maxRecDepth 10000
namespace Go.Ab
open Go.Proofs
theorem MsAt.mono {h : AH} {S U : Fp} {s5 s6 s7 : Sl} {m : Ms} (n : MsAt h S s5 s6 s7 m) (f : ∀ j, S j → U j) : MsAt h U s5 s6 s7 m := ⟨n.ids.mono f, n.rows.mono f, n.nats.mono f⟩
@[reducible] def Ef.msg : Ef Ms where
 w := 7
 pos := by decide
 has h S cs m := ∃ s5 s6 s7, cs = m.cells s5 s6 s7 ∧ MsAt h S s5 s6 s7 m
 len := fun ⟨_, _, _, e, _⟩ => by rw [e]; rfl
 grow g := fun ⟨a, b, c, e, n⟩ => ⟨a, b, c, e, n.grow g⟩
 mono f := fun ⟨a, b, c, e, n⟩ => ⟨a, b, c, e, n.mono f⟩
 upd no u := fun ⟨a, b, c, e, n⟩ => ⟨a, b, c, e, ⟨n.ids.upd no u, n.rows.upd no u, n.nats.upd no u⟩⟩
 bound := fun ⟨a, b, c, e, n⟩ => ⟨a, b, c, e, ⟨n.ids.bound, n.rows.bound, n.nats.bound⟩⟩
structure Stp where
 frm : Int
 m : Ms
 right : Bool
 way : Int
@[reducible] def Ef.stp : Ef Stp where
 w := 10
 pos := by decide
 has h S cs x := ∃ s5 s6 s7, cs = .int .i64 x.frm :: (x.m.cells s5 s6 s7 ++ [.bool x.right, .int .i64 x.way]) ∧ MsAt h S s5 s6 s7 x.m
 len := fun ⟨_, _, _, e, _⟩ => by rw [e]; rfl
 grow g := fun ⟨a, b, c, e, n⟩ => ⟨a, b, c, e, n.grow g⟩
 mono f := fun ⟨a, b, c, e, n⟩ => ⟨a, b, c, e, n.mono f⟩
 upd no u := fun ⟨a, b, c, e, n⟩ => ⟨a, b, c, e, ⟨n.ids.upd no u, n.rows.upd no u, n.nats.upd no u⟩⟩
 bound := fun ⟨a, b, c, e, n⟩ => ⟨a, b, c, e, ⟨n.ids.bound, n.rows.bound, n.nats.bound⟩⟩
theorem kr4 {h : AH} {cs : List AV} (a : ArgT Pg h T.kcz cs) : ∃ xs, Ef.nats.has h Fp.no cs xs := by
 obtain ⟨s, xs, e, n⟩ := koy a
 refine ⟨xs, s, e, n, fun j hj => hj ?_⟩
 rcases a.slice ki8 with h1 | ⟨ad, len, cap, h1, -⟩
 ·rw [e] at h1
  cases s
  simp [Sl.v] at h1
  obtain ⟨rfl, rfl, rfl⟩ := h1
  exact .inr fun o ho => by cases ho
 ·rw [e] at h1
  cases s
  simp [Sl.v] at h1
  obtain ⟨rfl, rfl, rfl⟩ := h1
  exact .inr fun o ho => by cases ho
theorem kmt {h : AH} {cs : List AV} (a : ArgT Pg h T.ke3 cs) : ∃ (s : Sl) (xs : List (List Nat)), cs = [s.v] ∧ Sq Ef.nats h Fp.no s xs := Sq.of_arg (E := Ef.nats) kqq ksb (fun es t => kr4 t) a
theorem msg_of {h : AH} {cs : List AV} (a : ArgT Pg h T.kw cs) : ∃ m : Ms, Ef.msg.has h Fp.no cs m := by
 obtain ⟨hl, hf⟩ := a.struct kq9
 rw [kim] at hl
 match cs, hl with
 | [x0, x1, x2, x3, x4, x5, x6], _ =>
  simp [kdw, kgc, kq5] at hf
  obtain ⟨h0, h1, h2, h3, h4, h5, h6⟩ := hf
  obtain ⟨y0, e0, _⟩ := h0.int kbk
  obtain ⟨y1, e1, _⟩ := h1.int kbk
  obtain ⟨y2, e2, _⟩ := h2.int kbk
  obtain ⟨y3, e3, _⟩ := h3.int kbk
  obtain ⟨s4, l4, e4, n4⟩ := kdv h4
  obtain ⟨s5, l5, e5, n5⟩ := kdv h5
  obtain ⟨s6, l6, e6, n6⟩ := kmt h6
  cases e0; cases e1; cases e2; cases e3; cases e4; cases e5; cases e6
  exact ⟨⟨y0, y1, y2, y3, l4, l5, l6⟩, s4, s5, s6, rfl, n4, n5, n6⟩
theorem knu {h : AH} {x : AV} (a : ArgV Pg h T.kgq x) : ∃ (s : Sl) (l : List Stp), x = s.v ∧ Sq Ef.stp h Fp.no s l := by
 unfold ArgV at a
 rw [kh2] at a
 obtain ⟨s, l, e, n⟩ := Sq.of_arg (E := Ef.stp) (S := Fp.no) kh2 kki (fun es t => by
  obtain ⟨hl, hf⟩ := t.struct kmc
  rw [kki] at hl
  match es, hl with
  | [x0, x1, x2, x3, x4, x5, x6, x7, x8, x9], _ =>
   simp [kdw, kjp, kim] at hf
   obtain ⟨h0, h1, h2, h3⟩ := hf
   obtain ⟨y0, e0, _⟩ := h0.int kbk
   obtain ⟨m, s5, s6, s7, e1, n1⟩ := msg_of h1
   obtain ⟨b, e2⟩ := h2.bool kkt
   obtain ⟨y3, e3, _⟩ := h3.int kbk
   cases e0; cases e2; cases e3
   exact ⟨⟨y0, m, b, y3⟩, s5, s6, s7, by rw [← e1]; rfl, n1⟩) a
 cases e
 exact ⟨s, l, rfl, n⟩
theorem kpw {h : AH} {a b c d : Int} : Runs (go (.fn F.kf9 [.agg [.int .i64 a, .int .i64 b, .int .i64 c, .int .i64 d, nilS.v, nilS.v, nilS.v], .agg [.int .i64 a, .int .i64 b, .int .i64 c, .int .i64 d, nilS.v, nilS.v, nilS.v]]) h) fun v h' => v = .bool true ∧ Grow h h' := by
 rw [km2]
 refine Runs.new fun h1 b1 g1 => Runs.new fun h2 b2 g2 => ?_
 have B1 := g2.has b1
 have ints : go (.fn F.kb1 [nilS.v, nilS.v]) h2 = some (.bool true, h2) := ki4 (Sq.nil EI h2 Fp.no) (Sq.nil EI h2 Fp.no)
 refine Runs.step (B1.rd 4 rfl (asSl_v _)) (Runs.step (b2.rd 4 rfl (asSl_v _)) (Runs.step ints (Runs.step (seen rfl) ?_)))
 refine Runs.step (B1.rd 5 rfl (asSl_v _)) (Runs.step (b2.rd 5 rfl (asSl_v _)) (Runs.step ints (Runs.step (seen rfl) ?_)))
 refine Runs.step (B1.rd 6 rfl (asSl_v _)) (Runs.step (b2.rd 6 rfl (asSl_v _)) (Runs.step kmq (Runs.step (seen rfl) ?_)))
 refine Runs.step (B1.rd 0 rfl (kb _ _)) (Runs.step (b2.rd 0 rfl (kb _ _)) (Runs.ifT (decide_eq_true rfl) ?_))
 refine Runs.step (B1.rd 1 rfl (kb _ _)) (Runs.step (b2.rd 1 rfl (kb _ _)) (Runs.ifT (decide_eq_true rfl) ?_))
 refine Runs.step (B1.rd 2 rfl (kb _ _)) (Runs.step (b2.rd 2 rfl (kb _ _)) (Runs.ifT (decide_eq_true rfl) ?_))
 refine Runs.step (B1.rd 3 rfl (kb _ _)) (Runs.step (b2.rd 3 rfl (kb _ _)) (Runs.ifT (decide_eq_true rfl) ?_))
 exact Runs.ifT rfl (Runs.ifT rfl (Runs.ret ⟨rfl, g1.trans g2⟩))
theorem Wk.answer_ok {w : Wk} (o : w.Ok) (hs : w.step = none) (frm : Int) (m : Ms) : (w.answer frm m).2.Ok ∧ (w.answer frm m).2.step = none := by
 unfold Wk.answer
 split
 ·exact ⟨o, hs⟩
 rename_i hr
 split
 ·exact ⟨o, hs⟩
 split
 ·exact ⟨o, hs⟩
 obtain ⟨_, ht, hl, hp⟩ := (o.stop hs).resolve_left (by omega)
 obtain ⟨z, e, _, _, _, o'⟩ := o.kid (by omega) ht hl (decide (m.c = 1))
 rw [e, Int.toNat_natCast]
 obtain ⟨a, b, -⟩ := Wk.Ok.on _ o' (Nat.le_refl _)
 exact ⟨a, b⟩
structure Both (h : AH) (S1 S2 : Fp) (i1 j1 i2 j2 : Nat) (w : Wk) : Prop where
 a : WalkAt T.kx h S1 i1 j1 w
 b : WalkAt T.kbe h S2 i2 j2 w
 ok : w.Ok
 st : w.step = none
 d1 : Dis S1 (Fp.two i2 j2)
 d2 : Dis S2 (Fp.two i1 j1)
 d3 : i1 ≠ i2 ∧ i1 ≠ j2 ∧ j1 ≠ i2 ∧ j1 ≠ j2
section
variable {h0 : AH} {S1 S2 : Fp} {i1 j1 i2 j2 : Nat} {s : Sl} {l : List Stp}
theorem kj6 {z : Int} {w : Wk} {h : AH} (B : Both h S1 S2 i1 j1 i2 j2 w) (hl : ∀ h' w', Both h' S1 S2 i1 j1 i2 j2 w' → Sq Ef.stp h' Fp.no s l → Runs (go (.pt F.kbd Td.kco [(2, s.v), (9, .ptr (some (.new i1 0))), (11, .ptr (some (.new i2 0))), (13, .int .i64 (IntKind.wrap .i64 (z + 1)))]) h') fun v _ => v = .bool true)
  (n : Sq Ef.stp h Fp.no s l) {b : Nat} {frm : Int} {m : Ms} {s5 s6 s7 : Sl} {S3 : Fp} {rest : List AV} (hb : h.has b (.int .i64 frm :: (m.cells s5 s6 s7 ++ rest)) T.kd9) (nm : MsAt h S3 s5 s6 s7 m) (d3 : ∀ k, S3 k → k ≠ i1 ∧ k ≠ j1) (hb1 : b ≠ i1 ∧ b ≠ j1) :
  Runs (go (.pt F.kbd Td.kf5 [(2, s.v), (9, .ptr (some (.new i1 0))), (11, .ptr (some (.new i2 0))), (13, .int .i64 z), (22, .ptr (some (.new b 0)))]) h) fun v _ => v = .bool true := by
 rw [kpd]
 refine Runs.step (hb.rd 0 rfl (kb _ _)) ?_
 repeat refine Runs.step (AH.has.rn hb _ rfl (by first | exact kb _ _ | exact asSl_v _)) ?_
 refine (klg B.a B.ok B.st nm frm).call fun _ h1 ⟨e, W1, m1⟩ => ?_
 subst e
 have hb' := m1.has hb (fun k => k.elim hb1.1 hb1.2)
 refine Runs.step (seen (kb _ _)) (Runs.step (hb'.rd 0 rfl (kb _ _)) ?_)
 repeat refine Runs.step (AH.has.rn hb' _ rfl (by first | exact kb _ _ | exact asSl_v _)) ?_
 obtain ⟨x1, x2, x3, x4⟩ := B.d3
 have nm' := nm.md m1 fun k hk hk2 => by
  rcases hk2 with rfl | rfl
  ·exact (d3 _ hk).1 rfl
  ·exact (d3 _ hk).2 rfl
 refine (knw (B.b.md m1 B.d2 (fun k => by rcases k with k | k <;> omega) (fun k => by rcases k with k | k <;> omega)) B.ok B.st nm' frm).call fun _ h2 ⟨e, W2, m2⟩ => ?_
 subst e
 obtain ⟨ok, st⟩ := Wk.answer_ok B.ok B.st frm m
 refine Runs.step (seen (kb _ _)) (Runs.ifF (by simp) (hl h2 _ ⟨W1.md m2 B.d1 (fun k => by rcases k with k | k <;> omega) (fun k => by rcases k with k | k <;> omega), W2, ok, st, B.d1, B.d2, B.d3⟩ ((n.md m1 Dis.no.symm).md m2 Dis.no.symm)))
theorem kk0 : ∀ (k i : Nat), i + k = 200 → ∀ {w : Wk} {h : AH}, Both h S1 S2 i1 j1 i2 j2 w → Sq Ef.stp h Fp.no s l →
  Runs (go (.pt F.kbd Td.kco [(2, s.v), (9, .ptr (some (.new i1 0))), (11, .ptr (some (.new i2 0))), (13, .int .i64 (i : Int))]) h) fun v _ => v = .bool true := by
 intro k
 induction k with
 | zero =>
  intro i hi w h B n
  rw [kgf]
  exact Runs.cond (fun c => Runs.ifF (decide_eq_false (by omega)) (Runs.ret rfl)) (fun c => Runs.ret rfl)
 | succ k ih =>
  intro i hi w h B n
  rw [kgf]
  refine Runs.cond (fun c => Runs.ifT (decide_eq_true (by omega)) (Runs.ifT rfl ?_)) (fun c => Runs.ret rfl)
  rw [n.len] at c ⊢
  rw [decide_eq_true_eq] at c
  refine (kij B.a B.ok B.st).call fun _ h1 ⟨e, g1⟩ => ?_
  subst e
  obtain ⟨x1, x2, x3, x4, x5, ex⟩ := Wk.next_cells (w := w)
  rw [ex]
  refine Runs.step rfl (Runs.step rfl (Runs.ifT rfl ?_))
  repeat refine Runs.step (seenAt rfl (by first | exact kb _ _ | exact asSl_v _)) ?_
  refine Runs.step (seen rfl) (Runs.new fun h2 b2 g2 => Runs.puts b2 rfl fun h3 b3 u3 => ?_)
  have g3 : Grow h h3 := g1.trans (g2.updr (Nat.le_refl _) u3)
  refine (kh3 (B.b.grow g3) B.ok B.st).call fun _ h4 ⟨e, g4⟩ => ?_
  subst e
  rw [ex]
  refine Runs.step rfl (Runs.step rfl (Runs.ifT rfl ?_))
  repeat refine Runs.step (seenAt rfl (by first | exact kb _ _ | exact asSl_v _)) ?_
  refine Runs.step (seen rfl) (Runs.new fun h5 b5 g5 => Runs.puts b5 rfl fun h6 b6 u6 => ?_)
  have g6 : Grow h3 h6 := g4.trans (g5.updr (Nat.le_refl _) u6)
  have b3' := g6.has b3
  repeat refine Runs.step (AH.has.rn b3' _ rfl (by first | exact kb _ _ | exact asSl_v _)) ?_
  repeat refine Runs.step (AH.has.rn b6 _ rfl (by first | exact kb _ _ | exact asSl_v _)) ?_
  refine kpw.call fun _ h7 ⟨e, g7⟩ => ?_
  subst e
  have G7 := g3.trans (g6.trans g7)
  refine Runs.step (seen rfl) ?_
  refine (kjq (B.a.grow G7) B.ok B.st).call fun _ h8 ⟨s', q, e, v8, g8⟩ => ?_
  subst e
  have G8 := G7.trans g8
  have W2 := B.b.grow G8
  obtain ⟨t0, t1, t2, t3, t7, bb, -, -, vv, -⟩ := W2
  refine Runs.step rfl (Runs.step (seen (asSl_v _)) (Runs.step (seen rfl) (Runs.step rfl (Runs.step (bb.rn _ rfl (asSl_v _)) ?_))))
  refine Runs.step (ki4 v8.sq vv.sq) (Runs.step (seen rfl) ?_)
  have B3 := (g7.trans g8).has b3'
  have B6 := (g7.trans g8).has b6
  refine Runs.ifF (by simp) (Runs.step (B3.rd 0 rfl (kb _ _)) (Runs.step (B6.rd 0 rfl (kb _ _)) (Runs.ifF (by simp) (Runs.ifF rfl (Runs.ifF (by simp) (Runs.ifF (by simp) ?_))))))
  refine Runs.cond (fun c2 => Runs.ret rfl) (fun c2 => ?_)
  rw [decide_eq_false_iff_not] at c2
  have hlt : i < l.length := by omega
  have n8 := n.grow G8
  obtain ⟨r, cs, f1, ⟨s5, s6, s7, ec, nm⟩, f2⟩ := n8.at (kdq hlt)
  rw [← n8.len] at f1
  have f1 : idx s.ref s.len (i : Int) 10 = some r := f1
  subst ec
  refine Runs.step (by rw [← n8.len]; exact f1) ?_
  repeat refine Runs.step (f2.rd (Grow.refl _) _ rfl (by first | exact kb _ _ | exact asSl_v _ | rfl)) ?_
  refine Runs.new fun h9 b9 g9 => Runs.puts b9 rfl fun h10 b10 u10 => ?_
  have g10 : Grow h8 h10 := g9.updr (Nat.le_refl _) u10
  have G10 := G8.trans g10
  have Bh : Both h10 S1 S2 i1 j1 i2 j2 w := ⟨B.a.grow G10, B.b.grow G10, B.ok, B.st, B.d1, B.d2, B.d3⟩
  have next : ∀ h' w', Both h' S1 S2 i1 j1 i2 j2 w' → Sq Ef.stp h' Fp.no s l → Runs (go (.pt F.kbd Td.kco [(2, s.v), (9, .ptr (some (.new i1 0))), (11, .ptr (some (.new i2 0))), (13, .int .i64 (IntKind.wrap .i64 ((i : Int) + 1)))]) h') fun v _ => v = .bool true := fun h' w' Bn nn => by
   rw [ki (by omega)]
   exact ih (i + 1) (by omega) Bn nn
  have ilt : ∀ {ty : TypeId} {S : Fp} {i j : Nat} {w : Wk}, WalkAt ty h8 S i j w → i < h8.blks.size ∧ j < h8.blks.size := fun W => by
   obtain ⟨_, _, _, _, _, b, _, _, v, _⟩ := W
   exact ⟨b.lt, v.lt⟩
  have lt1 := ilt (B.a.grow G8)
  refine Runs.step (b10.rd 8 rfl rfl) (Runs.cond (fun c3 => ?_) (fun c3 => ?_))
  ·have B6' := g10.has B6
   refine Runs.step (B6'.rd 0 rfl (kb _ _)) (Runs.step (b10.rd 9 rfl (kb _ _)) ?_)
   refine Runs.putAt b10 (by simp) rfl fun h11 b11 u11 => ?_
   have g11 : Grow h8 h11 := g10.updr (Nat.le_refl _) u11
   have B6'' := g11.has B6
   refine Runs.step (B6''.rn _ rfl (kb _ _)) (Runs.step (B6''.rn _ rfl (kb _ _)) ?_)
   refine Runs.step (b11.rd 9 rfl (kb _ _)) (Runs.step (b11.rd 9 rfl (kb _ _)) ?_)
   refine Runs.putAt b11 (by simp) rfl fun h12 b12 u12 => ?_
   have g12 : Grow h8 h12 := g11.updr (Nat.le_refl _) u12
   have G12 := G8.trans g12
   exact kj6 ⟨B.a.grow G12, B.b.grow G12, B.ok, B.st, B.d1, B.d2, B.d3⟩ next (n.grow G12) (m := ⟨9, _, _, _, [], [], []⟩) (s5 := nilS) (s6 := nilS) (s7 := nilS) (S3 := Fp.no) (rest := [.bool l[i].right, .int .i64 l[i].way]) b12 ⟨Sq.nil _ _ _, Sq.nil _ _ _, Sq.nil _ _ _⟩ (fun k hk => hk.elim) (by dsimp only; omega)
  ·exact kj6 Bh next (n.grow G10) (rest := [.bool l[i].right, .int .i64 l[i].way]) b10 (nm.grow g10) (fun k hk => hk.elim) (by dsimp only; omega)
end
theorem PredictWalks_law (h : AH) {x0 x1 x2 : AV} (z0 : ArgV Pg h T.kbc x0) (z1 : ArgV Pg h T.k8 x1) (z2 : ArgV Pg h T.kgq x2) : ∃ h', go (.fn F.kbd [x0, x1, x2]) h = some (.bool true, h') := by
 obtain ⟨s, m, rfl, n⟩ := kn1 z0
 obtain ⟨s1, s2, s3, t, rfl, nt⟩ := tab_of z1
 obtain ⟨s4, l, rfl, nl⟩ := knu z2
 suffices H : Runs (go (.fn F.kbd [.agg [s.v], .agg [s1.v, s2.v, s3.v], s4.v]) h) fun v _ => v = .bool true by
  obtain ⟨_, h', e, rfl⟩ := H
  exact ⟨h', e⟩
 rw [kqh]
 refine Runs.new fun h1 b1 g1 => Runs.new fun h2 b2 g2 => ?_
 refine kp0.call fun _ h3 ⟨e, g3⟩ => ?_
 subst e
 have B1 := (g2.trans g3).has b1
 have B2 := g3.has b2
 have G3 := g1.trans (g2.trans g3)
 refine Runs.step (seen rfl) ?_
 repeat refine Runs.step (AH.has.rd (by assumption) _ rfl (asSl_v _)) ?_
 refine (few_is (n.grow G3)).call fun _ h4 ⟨⟨r, e⟩, g4⟩ => ?_
 subst e
 have B1 := g4.has B1
 have B2 := g4.has B2
 have G4 := G3.trans g4
 refine Runs.step (seen rfl) (Runs.ifF rfl (Runs.cond (fun c => Runs.ret rfl) (fun c => ?_)))
 repeat refine Runs.step (AH.has.rd (by assumption) _ rfl (asSl_v _)) ?_
 refine (kix (n.grow G4) (nt.grow G4) (fun k hk => hk.elim) 4).call fun v5 h5 ⟨g5, d5⟩ => ?_
 have B1 := g5.has B1
 have B2 := g5.has B2
 have G5 := G4.trans g5
 have again := klu (n.grow G5) (nt.grow G5) (fun k hk => hk.elim) 4
 rcases d5 with ⟨a, rfl⟩ | ⟨a, i1, j1, S1, rfl, W1, ok, hi1, hj1, li1, lj1, hS1⟩
 ·refine Runs.step rfl (Runs.step (seen rfl) (Runs.step (seen (kb _ _)) ?_))
  repeat refine Runs.step (AH.has.rd (by assumption) _ rfl (asSl_v _)) ?_
  refine again.call fun v6 h6 ⟨g6, d6⟩ => ?_
  rcases d6 with ⟨_, rfl⟩ | ⟨b, _⟩
  ·refine Runs.step rfl (Runs.step (seen rfl) (Runs.step (seen (kb _ _)) (Runs.ifF (by simp) (Runs.ifF rfl ?_))))
   show Runs (go (.pt F.kbd Td.kco [(2, s4.v), (9, .ptr none), (11, .ptr none), (13, .int .i64 0)]) h6) _
   rw [kgf]
   exact Runs.cond (fun c => Runs.ifT rfl (Runs.ifF rfl (Runs.ret rfl))) (fun c => Runs.ret rfl)
  ·exact absurd b a
 ·refine Runs.step rfl (Runs.step (seen rfl) (Runs.step (seen (kb _ _)) ?_))
  repeat refine Runs.step (AH.has.rd (by assumption) _ rfl (asSl_v _)) ?_
  refine again.call fun v6 h6 ⟨g6, d6⟩ => ?_
  rcases d6 with ⟨b, _⟩ | ⟨b, i2, j2, S2, rfl, W2, _, hi2, hj2, li2, lj2, hS2⟩
  ·exact absurd a b
  ·refine Runs.step rfl (Runs.step (seen rfl) (Runs.step (seen (kb _ _)) (Runs.ifF rfl (Runs.ifF rfl ?_))))
   obtain ⟨o1, st, -⟩ := Wk.Ok.on _ ok (Nat.le_refl _)
   refine kk0 200 0 (by omega) (S1 := S1) (S2 := S2) (j1 := j1) (j2 := j2) ⟨W1.grow g6, W2, o1, st, fun k hk hk2 => ?_, fun k hk hk2 => ?_, by omega⟩ (nl.grow (G5.trans g6))
   ·have := (hS1 k hk).1
    rcases hk2 with rfl | rfl <;> omega
   ·have := (hS2 k hk).2.resolve_left id
    rcases hk2 with rfl | rfl <;> omega
end Go.Ab
