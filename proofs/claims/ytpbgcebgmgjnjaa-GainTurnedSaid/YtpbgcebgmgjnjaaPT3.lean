/- squeezed -/
import Derived.Test.YtpbgcebgmgjnjaaPR4

set_option linter.unusedVariables false
set_option linter.unusedSimpArgs false
set_option maxRecDepth 10000
namespace Go.Ab
open Go.Proofs Go.Num
theorem All2.drop {α β : Type} {R : α → β → Prop} {l : List α} {m : List β} (a : All2 R l m) : ∀ k : Nat, All2 R (l.drop k) (m.drop k) := by
 induction a with
 | nil => intro k; simp; exact .nil
 | cons h t ih =>
  intro k
  cases k with
  | zero => exact .cons h t
  | succ k => exact ih k
theorem All2.take {α β : Type} {R : α → β → Prop} {l : List α} {m : List β} (a : All2 R l m) : ∀ k : Nat, All2 R (l.take k) (m.take k) := by
 induction a with
 | nil => intro k; simp; exact .nil
 | cons h t ih =>
  intro k
  cases k with
  | zero => exact .nil
  | succ k => exact .cons h (ih k)
theorem All2.append {α β : Type} {R : α → β → Prop} {l l' : List α} {m m' : List β} (a : All2 R l m) (b : All2 R l' m') : All2 R (l ++ l') (m ++ m') := by
 induction a with
 | nil => exact b
 | cons h t ih => exact .cons h ih
theorem kpj {w : Nat} : ∀ {rows : List (List AV)}, (∀ r ∈ rows, r.length = w) → ∀ k : Nat, rows.flatten.drop (k * w) = (rows.drop k).flatten
 | [], _, k => by simp
 | r :: rows, h, 0 => by simp
 | r :: rows, h, k + 1 => by
  rw [List.flatten_cons, List.drop_succ_cons, ← kpj (fun q hq => h q (by simp [hq])) k, Nat.add_mul, Nat.one_mul, Nat.add_comm, ← List.drop_drop, List.drop_left' (h r (by simp))]
theorem kp7 {w : Nat} : ∀ {rows : List (List AV)}, (∀ r ∈ rows, r.length = w) → ∀ k : Nat, rows.flatten.take (k * w) = (rows.take k).flatten
 | [], _, k => by simp
 | r :: rows, h, 0 => by simp
 | r :: rows, h, k + 1 => by
  rw [List.flatten_cons, List.take_succ_cons, List.flatten_cons, ← kp7 (fun q hq => h q (by simp [hq])) k, Nat.add_mul, Nat.one_mul, Nat.add_comm (k * w)]
  have hr := h r (by simp)
  rw [List.take_append, List.take_of_length_le (by omega), hr]
  congr 2
  omega
theorem kmi {n : Nat} (h : n ≤ 1000000) : growOk Pg n T.ko 2 = true := by
 unfold growOk
 rw [kto, ks1]
 have h1 : n * 16 ≤ kbc := by simp only [kbc]; omega
 have h2 : n ≤ kbc := by simp only [kbc]; omega
 simp [h1, h2]
theorem GF.toNoB {elem : TypeId} {h : AH} {S : Fp} {s : Sl} : ∀ {i : Option Nat} {xs : List Bool}, GF Ef.bool elem h S s i xs → GF Ef.bool elem h Fp.no s i xs
 | .none, _, v => v
 | .some _, _, ⟨l, a, r, ln, rows, e, b, c, r2⟩ => ⟨l, id, r, ln, rows, e, b, c, r2.imp fun _ _ x => x⟩
theorem kyk {h : AH} {s : Sl} {X : List (Int × Int)} (n : Sq E2 h Fp.all s X) {k : Nat} (hk : k < X.length) (hX : X.length ≤ 500) {Q : AV → AH → Prop} {K : Sl → AV × AH → Option (AV × AH)}
  (H : ∀ (s' : Sl) (q : AV × AH), Sq E2 q.2 Fp.all s' (X.drop k ++ X.take k) → Grow h q.2 → Runs (K s' q) Q) :
  Runs ((cutSl s (k : Int) (X.length : Int) 2).bind fun l10 => (cutSl s 0 (k : Int) 2).bind fun l11 => newK h (.cells [] T.ko) fun h12r h12 =>
   (kcm Pg T.ko l10.v h12).bind fun p14 => (kbb Pg (⟨some h12r, 0, .is 0⟩ : Sl) p14.1 p14.2 T.ko 2 h12).bind fun q13 => (AV.asSl q13.1).bind fun l15 =>
   (kcm Pg T.ko l11.v q13.2).bind fun p17 => (kbb Pg l15 p17.1 p17.2 T.ko 2 q13.2).bind fun q16 => (AV.asSl q16.1).bind fun l18 => K l18 q16) Q := by
 obtain ⟨⟨rows, c, a⟩, ln, sh, at'⟩ := n
 have hr : ∀ r ∈ rows, r.length = 2 := Ef.rows a
 have hl := All2.length a
 have c : Cells h s 2 rows.flatten := c
 obtain ⟨s1, e1, l1, c1, -⟩ := c.cut (l := k) (n := X.length) (by omega) (by omega)
 obtain ⟨s2, e2, l2, c2, -⟩ := c.cut (l := 0) (n := k) (by omega) (by omega)
 refine Runs.step e1 (Runs.step e2 ?_)
 refine Runs.new fun h12 b12 g12 => ?_
 have w2 : Pg.cellsOf T.ko = 2 := kik
 refine Runs.step (kh0 (P := Pg) (elem := T.ko) (by rw [w2]; exact c1.grow g12)) ?_
 have f1 : (rows.flatten.drop (k * 2)).take ((X.length - k) * 2) = (rows.drop k).flatten := by
  rw [kpj hr, List.take_of_length_le]
  rw [kbz (fun r hr' => hr r (List.mem_of_mem_drop hr')), List.length_drop, hl]
  exact Nat.le_refl _
 have f2 : (rows.flatten.drop (0 * 2)).take ((k - 0) * 2) = (rows.take k).flatten := by
  rw [Nat.zero_mul, List.drop_zero, Nat.sub_zero, kp7 hr]
 rw [f1] at c1 ⊢
 rw [f2] at c2
 rw [l1]
 have e0 : Cells h12 (⟨some (.new h.blks.size 0), 0, .is 0⟩ : Sl) 2 [] := Cells.of_has b12 rfl
 have ap := kfw (P := Pg) (c := 0) (n := X.length - k) (elem := T.ko) (cs := (rows.drop k).flatten) rfl (by simp; omega) (kmi (by simp; omega)) e0
 refine Runs.step ap ?_
 refine Runs.step (asSl_v _) ?_
 dsimp only
 generalize hh13 : h12.push (.cells ([] ++ (rows.drop k).flatten) T.ko) = h13
 have g13 : Grow h12 h13 := by rw [← hh13]; exact Grow.push _ _
 have b13 : h13.has h12.blks.size (rows.drop k).flatten T.ko := by rw [← hh13]; exact AH.has_push _ _ _
 have l12 : h.blks.size < h12.blks.size := b12.lt
 have hdl : (rows.drop k).flatten.length = (X.length - k) * 2 := by
  rw [kbz (fun r hr' => hr r (List.mem_of_mem_drop hr')), List.length_drop, hl]
 have M : Mine h h13 (⟨some (.new h12.blks.size 0), 0 + (X.length - k), .opn 2⟩ : Sl) T.ko 2 (rows.drop k).flatten :=
  ⟨g12.trans g13, ⟨rfl, by rw [hdl, Nat.zero_add], fun j v hv => ⟨_, rfl, by rw [Ref.add_new, Nat.zero_add, b13.cell]; exact hv⟩⟩, .inr ⟨_, _, rfl, rfl, by omega, b13⟩⟩
 refine Runs.step (kh0 (P := Pg) (elem := T.ko) (by rw [w2]; exact c2.grow (g12.trans g13))) ?_
 have fin : ∀ {s' : Sl} {h' : AH}, s'.len = X.length → Grow h h' → Cells h' s' 2 ((rows.drop k).flatten ++ (rows.take k).flatten) → Sq E2 h' Fp.all s' (X.drop k ++ X.take k) := fun hl' g' cc => by
  refine ⟨⟨rows.drop k ++ rows.take k, by rw [List.flatten_append]; exact cc, ?_⟩, by rw [hl']; simp; omega, by simp; omega, .inr fun _ _ _ => trivial⟩
  exact ((a.drop k).append (a.take k)).imp fun _ _ y => Ef.grow _ g' y
 rcases Nat.eq_zero_or_pos k with h0 | h0
 ·have z : (rows.take k).flatten = [] := by rw [h0]; rfl
  rw [l2, z, show k - 0 = 0 from h0]
  obtain ⟨s3, e3, c3, -⟩ := km1 (P := Pg) (elem := T.ko) (by decide) M.cells
  refine Runs.step e3 ?_
  refine Runs.step (asSl_v _) ?_
  have := H s3 (s3.v, h13) (fin ?_ M.grow (by rw [z, List.append_nil]; exact c3)) M.grow
  ·exact this
  ·have := c3.len
   rw [hdl] at this
   omega
 ·rw [l2]
  obtain ⟨s3, h3, e3, l3, M3, -⟩ := M.append (P := Pg) (n := k - 0) (cs := (rows.take k).flatten) (by omega) (by rw [kbz (fun r hr' => hr r (List.mem_of_mem_take hr')), List.length_take, hl]; omega) (kmi (by simp; omega))
  refine Runs.step e3 ?_
  refine Runs.step (asSl_v _) ?_
  exact H s3 (s3.v, h3) (fin (by rw [l3]; simp; omega) M3.grow M3.cells) M3.grow
end Go.Ab

/- squeezed -/
set_option linter.unusedVariables false
set_option linter.unusedSimpArgs false
set_option maxRecDepth 10000
namespace Go.Ab
open Go.Proofs Go.Num
theorem kww {l γ G N : Int} {X : List (Int × Int)} {k : Nat} (hk : k < X.length) (hX : X.length ≤ 500) :
  (bestF l γ G N X).2 = (bestF l γ G N (X.drop k ++ X.take k)).2 ∧ (bestF l γ G N X).1.length = (bestF l γ G N (X.drop k ++ X.take k)).1.length ∧
  (∀ y ∈ (bestF l γ G N (X.drop k ++ X.take k)).1, ∃ j : Nat, y = (j : Int) ∧ j < X.length) ∧
  (∀ x ∈ (bestF l γ G N X).1, ∃ j : Nat, x = (j : Int) ∧ j < X.length ∧ ∃ j' : Nat, (j' : Int) ∈ (bestF l γ G N (X.drop k ++ X.take k)).1 ∧ j = rot X.length k j') := by
 have len : (X.drop k ++ X.take k).length = X.length := by simp; omega
 have triv : (([] : List Int), (1 : Int)).2 = (([] : List Int), (1 : Int)).2 ∧ (([] : List Int), (1 : Int)).1.length = (([] : List Int), (1 : Int)).1.length ∧ (∀ y ∈ (([] : List Int), (1 : Int)).1, ∃ j : Nat, y = (j : Int) ∧ j < X.length) ∧ (∀ x ∈ (([] : List Int), (1 : Int)).1, ∃ j : Nat, x = (j : Int) ∧ j < X.length ∧ ∃ j' : Nat, (j' : Int) ∈ (([] : List Int), (1 : Int)).1 ∧ j = rot X.length k j') :=
  ⟨rfl, rfl, fun _ h => (by cases h), fun _ h => (by cases h)⟩
 unfold bestF
 rw [len]
 cases kv G N with
 | false => exact triv
 | true =>
  cases hl : kx l with
  | false => exact triv
  | true =>
   simp only [Bool.not_true, cond_false]
   by_cases g1 : γ < 0
   ·rw [decide_eq_true g1]; exact triv
   by_cases g2 : γ > 1048576
   ·rw [decide_eq_false g1, decide_eq_true g2]; exact triv
   rw [decide_eq_false g1, decide_eq_false g2, decide_eq_false (show ¬ ((X.length : Int) > 16384) from by omega)]
   simp only [cond_false]
   have hγ := kui (γ := γ) (by omega)
   by_cases ok : ∀ x ∈ X, (kp x.1 x.2 G N).2.2 = true
   ·have ok' : ∀ x ∈ X.drop k ++ X.take k, (kp x.1 x.2 G N).2.2 = true := fun x hx => ok x (by
     rcases List.mem_append.1 hx with h | h
     ·exact List.mem_of_mem_drop h
     ·exact List.mem_of_mem_take h)
    obtain ⟨st, e, v⟩ := kmu hγ hl ok X.length 0 (by omega) (Inv.start hγ)
    obtain ⟨st', e', v'⟩ := kmu hγ hl ok' (X.drop k ++ X.take k).length 0 (by omega) (Inv.start hγ)
    rw [List.drop_zero] at e e'
    have e : bestGo l G N X 0 ([], gammaF γ) = (st.1, 0) := e
    have e' : bestGo l G N (X.drop k ++ X.take k) 0 ([], gammaF γ) = (st'.1, 0) := e'
    obtain ⟨key, hlen⟩ := kyo hk hγ hl ok v v'
    rw [e, e']
    have out' := v'.out
    rw [len] at out'
    refine ⟨rfl, hlen.symm, fun y hy => ?_, fun x hx => ?_⟩
    ·dsimp only at hy
     rw [out'] at hy
     obtain ⟨j, hj, rfl⟩ := List.mem_map.1 hy
     exact ⟨j, rfl, List.mem_range.1 (List.mem_filter.1 hj).1⟩
    ·dsimp only at hx ⊢
     rw [v.out] at hx
     obtain ⟨j, hj, rfl⟩ := List.mem_map.1 hx
     obtain ⟨h1, h2⟩ := List.mem_filter.1 hj
     have hjn := List.mem_range.1 h1
     have hr : rot X.length (X.length - k) j < X.length := rot_lt (by omega)
     have hb := kp5 hk hjn
     refine ⟨j, rfl, hjn, rot X.length (X.length - k) j, ?_, hb.symm⟩
     rw [out']
     refine List.mem_map.2 ⟨_, List.mem_filter.2 ⟨List.mem_range.2 hr, ?_⟩, rfl⟩
     rw [key _ hr, hb]
     exact h2
   ·have bad : ∃ x ∈ X, (kp x.1 x.2 G N).2.2 = false := by
     apply Classical.byContradiction
     intro h
     apply ok
     intro x hx
     cases hq : (kp x.1 x.2 G N).2.2 with
     | true => rfl
     | false => exact absurd ⟨x, hx, hq⟩ h
    obtain ⟨x, hx, hq⟩ := bad
    have bad' : ∃ x ∈ X.drop k ++ X.take k, (kp x.1 x.2 G N).2.2 = false := ⟨x, by
     rw [← List.take_append_drop k X] at hx
     rcases List.mem_append.1 hx with h | h
     ·exact List.mem_append_right _ h
     ·exact List.mem_append_left _ h, hq⟩
    rw [kkv l G N X 0 _ ⟨x, hx, hq⟩, kkv l G N _ 0 _ bad']
    exact triv
section
variable {n k m : Nat} {s3 s4 s5 : Sl} {xs ys : List Int} {S1 S2 : Fp}
theorem kmf (hn : n ≤ 500) (hx : ∀ x ∈ xs, ∃ j : Nat, x = (j : Int) ∧ j < n) {h : AH} {mets : List Bool} (gm : GF Ef.bool T.bool h Fp.no s5 (some m) mets) (lm : mets.length = n) (nx : Sq (Ef.int .i64) h S1 s3 xs) (met : ∀ x ∈ xs, ∀ j : Nat, x = (j : Int) → mets[j]? = some true) :
  ∀ (d i : Nat), i + d = xs.length → Runs (go (.pt F.kch Td.kh9 [(8, .int .i64 (n : Int)), (11, s3.v), (15, s5.v), (17, .int .i64 (i : Int))]) h) fun v _ => v = .bool true
 | 0, i, hi => by
  rw [knu, nx.len]
  exact Runs.ifF (by rw [decide_eq_false_iff_not]; omega) (Runs.ret rfl)
 | d + 1, i, hi => by
  have hlt : i < xs.length := by omega
  obtain ⟨j, hj, jn⟩ := hx xs[i] (List.getElem_mem _)
  have hm := met xs[i] (List.getElem_mem _) j hj
  obtain ⟨r, cs, e1, rfl, l1⟩ := nx.at (i := (i : Int)) (kjw hlt)
  have rd : (h.cell r).bind (AV.asInt .i64) = some (j : Int) := l1.rd0 (Grow.refl h) (f := AV.asInt .i64) rfl (by rw [hj]; exact kb _ _)
  have sm := gm.sq
  have hj' : j < mets.length := by omega
  obtain ⟨r2, cs2, e2, rfl, l2⟩ := sm.at (i := (j : Int)) (kjw hj')
  have rb : (h.cell r2).bind AV.asBool = some true := l2.rd0 (Grow.refl h) (f := AV.asBool) rfl (by
   rw [List.getElem?_eq_getElem hj'] at hm
   rw [Option.some.inj hm]; rfl)
  have hs := nx.short
  rw [knu]
  refine Runs.ifT (by rw [decide_eq_true_eq, nx.len]; omega) ?_
  rw [nx.len, sm.len]
  refine Runs.step e1 (Runs.step rd ?_)
  refine Runs.ifF (by rw [decide_eq_false_iff_not]; omega) ?_
  refine Runs.step e1 (Runs.step rd ?_)
  refine Runs.ifF (by rw [decide_eq_false_iff_not]; omega) ?_
  refine Runs.step e1 (Runs.step rd ?_)
  refine Runs.step e2 (Runs.step rb ?_)
  refine Runs.ifF rfl ?_
  rw [kbi (by omega)]
  exact kmf hn hx gm lm nx met d (i + 1) (by omega)
theorem kmj (hn : n ≤ 500) (hk : k < n) (hx : ∀ x ∈ xs, ∃ j : Nat, x = (j : Int) ∧ j < n ∧ ∃ j' : Nat, (j' : Int) ∈ ys ∧ j = rot n k j') (hy : ∀ y ∈ ys, ∃ j : Nat, y = (j : Int) ∧ j < n) (nm1 : ¬ S1 m) (nm2 : ¬ S2 m) :
  ∀ (d i : Nat), i + d = ys.length → ∀ {h : AH} {mets : List Bool}, GF Ef.bool T.bool h Fp.no s5 (some m) mets → mets.length = n → Sq (Ef.int .i64) h S1 s3 xs → Sq (Ef.int .i64) h S2 s4 ys → (∀ y ∈ ys.take i, ∀ j : Nat, y = (j : Int) → mets[rot n k j]? = some true) →
  Runs (go (.pt F.kch Td.kji [(8, .int .i64 (n : Int)), (9, .int .i64 (k : Int)), (11, s3.v), (13, s4.v), (15, s5.v), (16, .int .i64 (i : Int))]) h) fun v _ => v = .bool true
 | 0, i, hi, h, mets, gm, lm, nx, ny, met => by
  rw [ko0, ny.len]
  refine Runs.ifF (by rw [decide_eq_false_iff_not]; omega) ?_
  rw [List.take_of_length_le (by omega)] at met
  refine kmf hn (fun x h => by obtain ⟨j, a, b, _⟩ := hx x h; exact ⟨j, a, b⟩) gm lm nx (fun x hxx j hj => ?_) xs.length 0 (by omega)
  obtain ⟨j2, a, b, j', c, e⟩ := hx x hxx
  have : j = j2 := by omega
  subst this
  rw [e]
  exact met _ c j' rfl
 | d + 1, i, hi, h, mets, gm, lm, nx, ny, met => by
  have hlt : i < ys.length := by omega
  obtain ⟨j, hj, jn⟩ := hy ys[i] (List.getElem_mem _)
  obtain ⟨r, cs, e1, rfl, l1⟩ := ny.at (i := (i : Int)) (kjw hlt)
  have rd : (h.cell r).bind (AV.asInt .i64) = some (j : Int) := l1.rd0 (Grow.refl h) (f := AV.asInt .i64) rfl (by rw [hj]; exact kb _ _)
  have hs := ny.short
  have hrot : rot n k j < mets.length := by rw [lm]; exact rot_lt (by omega)
  have htm : Int.tmod (IntKind.wrap .i64 ((j : Int) + (k : Int))) (n : Int) = ((rot n k j : Nat) : Int) := by
   rw [show ((j : Int) + (k : Int)) = ((j + k : Nat) : Int) from by omega, kdu (by omega)]
   rfl
  obtain ⟨r2, h2, e2, e3, gm2, u2⟩ := gm.set (T := Fp.no) (cs := [.bool true]) (x := true) rfl NotO.no (z := ((rot n k j : Nat) : Int)) (kbt hrot)
  rw [ko0]
  refine Runs.ifT (by rw [decide_eq_true_eq, ny.len]; omega) ?_
  rw [ny.len, gm.len]
  refine Runs.step e1 (Runs.step rd ?_)
  refine Runs.ifF (by rw [decide_eq_false_iff_not]; omega) ?_
  refine Runs.step e1 (Runs.step rd ?_)
  refine Runs.ifF (by rw [decide_eq_false_iff_not]; omega) ?_
  refine Runs.step e1 (Runs.step rd ?_)
  refine Runs.ifF (by rw [decide_eq_false_iff_not]; omega) ?_
  rw [htm]
  refine Runs.step e2 (Runs.step e3 ?_)
  rw [kbi (by omega)]
  refine kmj hn hk hx hy nm1 nm2 d (i + 1) (by omega) gm2.toNoB (by rw [List.length_set]; exact lm) (nx.upd nm1 u2) (ny.upd nm2 u2) fun y hy' j2 hj2 => ?_
  rw [List.take_add_one, List.getElem?_eq_getElem hlt] at hy'
  rcases List.mem_append.1 hy' with h' | h'
  ·have := met y h' j2 hj2
   by_cases hjj : rot n k j = rot n k j2
   ·rw [← hjj, List.getElem?_set_self hrot]
   ·rw [List.getElem?_set_ne hjj]
    exact this
  ·simp at h'
   have : j2 = j := by rw [h', hj] at hj2; omega
   rw [this, List.getElem?_set_self hrot]
end
theorem km2 : ∀ n : Nat, repC [AV.bool false] n = (List.replicate n [AV.bool false]).flatten
 | 0 => rfl
 | n + 1 => by
  rw [List.replicate_succ, List.flatten_cons, ← km2 n]
  rfl
theorem koc {α β : Type} {R : α → β → Prop} {a : α} {b : β} (h : R a b) : ∀ n : Nat, All2 R (List.replicate n a) (List.replicate n b)
 | 0 => .nil
 | n + 1 => .cons h (koc h n)
theorem ktu {h : AH} {s : Sl} {X : List (Int × Int)} (n : Sq E2 h Fp.all s X) (l γ G N : Int) : Runs (go (.fn F.kch [.agg [.int .i64 l, .int .i64 γ], .agg [.int .i64 G, .int .i64 N], s.v]) h) fun v _ => v = .bool true := by
 rw [kwb]
 refine Runs.new fun h6 b6 g6 => Runs.new fun h7 b7 g7 => ?_
 obtain ⟨h8, e8, g8⟩ := ks4 (h := h7)
 refine Runs.step e8 ?_
 refine Runs.step (seen rfl) ?_
 refine Runs.ifF rfl ?_
 refine Runs.cond (fun k1 => Runs.ret rfl) (fun k1 => ?_)
 refine Runs.cond (fun k2 => Runs.ret rfl) (fun k2 => ?_)
 rw [decide_eq_false_iff_not] at k1 k2
 rw [n.len] at k1 k2 ⊢
 have hpos : 0 < X.length := by omega
 have hX : X.length ≤ 500 := by omega
 have hk : X.length / 2 < X.length := by omega
 have hw : IntKind.wrap .i64 (Int.tdiv (X.length : Int) 2) = ((X.length / 2 : Nat) : Int) := by
  have : Int.tdiv (X.length : Int) 2 = ((X.length / 2 : Nat) : Int) := rfl
  rw [this, kdu (by omega)]
 rw [hw]
 have d6 := g8.has (g7.has b6)
 have d7 := g8.has b7
 have n8 := n.grow ((g6.trans g7).trans g8)
 dsimp only
 refine kyk n8 hk hX fun s' q ns' gq => ?_
 obtain ⟨qv, hq⟩ := q
 dsimp only at ns' gq ⊢
 have i0 : idx (some (Ref.new h.blks.size 0)) 2 0 1 = some (.new h.blks.size 0) := rfl
 have i1 : idx (some (Ref.new h.blks.size 0)) 2 1 1 = some (.new h.blks.size 1) := rfl
 have rd : ∀ {h' : AH}, h'.has h.blks.size [.int .i64 l, .int .i64 γ] T.kf8 → (h'.cell (.new h.blks.size 0)).bind (AV.asInt .i64) = some l ∧ (h'.cell (.new h.blks.size 1)).bind (AV.asInt .i64) = some γ := fun b => ⟨b.rd0 rfl (kb _ _), by rw [b.cell]; rfl⟩
 have f6 := gq.has d6
 have f7 := gq.has d7
 refine Runs.step i0 (Runs.step (rd f6).1 (Runs.step i1 (Runs.step (rd f6).2 ?_)))
 refine Runs.step (f7.rd 0 (f := AV.asInt .i64) rfl (kb _ _)) ?_
 refine Runs.step (f7.rd 1 (f := AV.asInt .i64) rfl (kb _ _)) ?_
 obtain ⟨_, h25, e25, s1, rfl, q1, g25⟩ := kqn (n8.grow gq) l γ G N
 refine Runs.step e25 ?_
 refine Runs.step rfl ?_
 refine Runs.step (seen (asSl_v _)) ?_
 refine Runs.step (seen (kb _ _)) ?_
 have c6 := g25.has f6
 have c7 := g25.has f7
 refine Runs.step i0 (Runs.step (rd c6).1 (Runs.step i1 (Runs.step (rd c6).2 ?_)))
 refine Runs.step (c7.rd 0 (f := AV.asInt .i64) rfl (kb _ _)) ?_
 refine Runs.step (c7.rd 1 (f := AV.asInt .i64) rfl (kb _ _)) ?_
 obtain ⟨_, h35, e35, s2, rfl, q2, g35⟩ := kqn (ns'.grow g25) l γ G N
 refine Runs.step e35 ?_
 refine Runs.step rfl ?_
 refine Runs.step (seen (asSl_v _)) ?_
 refine Runs.step (seen (kb _ _)) ?_
 obtain ⟨t1, t2, t3, t4⟩ := kww (l := l) (γ := γ) (G := G) (N := N) hk hX
 rw [t1]
 refine Runs.ifF (by simp) ?_
 rw [q1.len, q2.len, t2]
 refine Runs.ifF (by simp) ?_
 dsimp only
 rw [ku4, kle (n := X.length) rfl rfl (by omega) (by omega)]
 show Runs (go _ (h35.push (.cells (repC [.bool false] X.length) T.bool))) _
 have gp := Grow.push h35 (.cells (repC [.bool false] X.length) T.bool)
 have bp := AH.has_push h35 (repC [.bool false] X.length) T.bool
 rw [km2] at gp bp ⊢
 generalize h35.push _ = h39 at *
 have gf : GF Ef.bool T.bool h39 Fp.no (⟨some (.new h35.blks.size 0), X.length, .is X.length⟩ : Sl) (some h35.blks.size) (List.replicate X.length false) :=
  GF.lit bp (koc (R := Ef.bool.has h39 Fp.no) (a := [AV.bool false]) (b := false) rfl _) id (by simp) (by omega)
 exact kmj hX hk t4 t3 (fun hh => by have := hh.2; have := g35.size; omega) (fun hh => by have := hh.2; omega) _ 0 (Nat.zero_add _) gf (by simp) ((q1.bound).grow (g35.trans gp)) ((q2.bound).grow gp) (fun y hy => by simp at hy)
theorem GainTurned_law (h : AH) {x0 x1 x2 : AV} (z0 : ArgV Pg h T.kf8 x0) (z1 : ArgV Pg h T.ko x1) (z2 : ArgV Pg h T.kl2 x2) : ∃ h', go (.fn F.kch [x0, x1, x2]) h = some (.bool true, h') := by
 obtain ⟨l, γ, rfl⟩ := kse z0
 obtain ⟨G, N, rfl⟩ := ku1 z1
 obtain ⟨s, xs, rfl, n⟩ := kvh z2
 obtain ⟨_, h', e, rfl⟩ := ktu n l γ G N
 exact ⟨h', e⟩
end Go.Ab
