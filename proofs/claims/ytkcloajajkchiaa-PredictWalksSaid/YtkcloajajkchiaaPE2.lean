/- squeezed -/
import Derived.Test.YtkcloajajkchiaaPU1

set_option linter.unusedVariables false
set_option linter.unusedSimpArgs false
set_option maxRecDepth 10000
namespace Go.Ab
open Go.Proofs
theorem kkz {h0 : AH} {S : Fp} {s : Sl} {xs : List Int} (n : Sq EI h0 S s xs) {b : Nat} {z : Int} {e : TypeId} (hb : h0.has b [.int .i64 z] e) : Runs (go (.fn F.kbz [s.v, .func (.func F.kbt) [] [.ptr (some (.new b 0))]]) h0) fun v h' => v = .bool (xs.any fun x => decide (x < 0) || decide (x ≥ z)) ∧ Grow h0 h' := by
 rw [kru]
 refine Runs.contains (xs := xs) ?_
 rw [kp8, n.len]
 refine kdt (n := xs.length) (G := fun y h => go (.pt F.kv Td.kbp [(0, s.v), (1, .func (.func F.kbt) [] [.ptr (some (.new b 0))]), (7, .int .i64 (xs.length : Int)), (8, .int .i64 y)]) h) (fun i h P hi g hT hF => ?_) (fun h g => ?_) xs.length 0 (by omega) (Grow.refl h0) (fun j hj => by omega)
 ·obtain ⟨r, e1, e2⟩ := (n.grow g).int hi
  rw [List.getElem?_eq_getElem hi] at hT hF
  simp only [Option.any_some] at hT hF
  show Runs (go _ _) _
  rw [kie]
  refine Runs.ifT (decide_eq_true (by omega)) (Runs.step e1 (Runs.step e2 ?_))
  have key : Runs (go (.fn F.kbt [.int .i64 xs[i], .ptr (some (.new b 0))]) h) fun v h' => v = .bool (decide (xs[i] < 0) || decide (xs[i] ≥ z)) ∧ h' = h := by
   rw [kqg]
   cases decide (xs[i] < 0)
   ·refine Runs.ifF rfl (Runs.step rfl (Runs.step ((g.has hb).rd0 rfl (kb _ _)) ?_))
    exact Runs.ret ⟨rfl, rfl⟩
   ·exact Runs.ret ⟨rfl, rfl⟩
  refine key.call fun v h' ⟨ev, eh⟩ => ?_
  subst ev; subst eh
  refine Runs.step (seen rfl) ?_
  rw [ki (by have := n.short; omega)]
  exact Runs.cond (fun c => Runs.ret (hT _ g c)) fun c => hF _ g c
 ·rw [kie, condF (decide_eq_false (by omega))]
section
variable {h0 : AH} {S : Fp} {s1 s2 s3 : Sl} {t : Tb}
theorem kmp (n : TabAt h0 S s1 s2 s3 t) (hl : t.cols.length ≤ 16) (hb : t.bins.length = t.cols.length) {b : Nat} (hbb : h0.blks.size ≤ b) : ∀ (k i : Nat), i + k = t.cols.length → ∀ {h : AH}, Grow h0 h → h.has b [s1.v, s2.v, s3.v] T.k8 →
  Runs (go (.pt F.kc2 Td.kfu [(1, .ptr (some (.new b 0))), (27, s3.v), (28, .int .i64 (t.cols.length : Int)), (29, .int .i64 (i : Int))]) h) fun v h' => v = .bool (((List.range t.cols.length).drop i).all (colR t)) ∧ Grow h0 h' := by
 intro k
 induction k with
 | zero =>
  intro i hi h g B
  rw [kht]
  refine Runs.ifF (decide_eq_false (by omega)) (Runs.ret ⟨?_, g⟩)
  rw [kcm (by simp; omega)]
 | succ k ih =>
  intro i hi h g B
  have hc : i < t.cols.length := by omega
  have hbi : i < t.bins.length := by omega
  obtain ⟨r, s', e1, e2, -, n'⟩ := (n.cols.grow g).sl hc
  obtain ⟨r2, e3, e4⟩ := (n.bins.grow g).int hbi
  rw [kht]
  refine Runs.ifT (decide_eq_true (by omega)) (Runs.step e1 (Runs.step e2 (Runs.step (B.rd 1 rfl (asSl_v _)) (Runs.step e3 (Runs.step e4 ?_)))))
  refine Runs.new fun h1 b1 g1 => Runs.puts b1 rfl fun h2 b2 u2 => ?_
  have G : Grow h h2 := g1.updr (Nat.le_refl _) u2
  have B2 := G.has B
  rw [kda hc]
  have hcol : colR t i = (!decide (t.bins[i] < 2) && !decide (t.bins[i] > 32) && decide (t.cols[i].length = t.ids.length) && !(t.cols[i].any fun x => decide (x < 0) || decide (x ≥ t.bins[i]))) := by
   simp [colR, List.getD, hbi, hc]
  rw [hcol]
  refine Runs.step (b2.rd0 rfl (kb _ _)) (Runs.cond (fun c => Runs.ret ⟨by rw [c]; rfl, g.trans G⟩) fun c => ?_)
  refine Runs.step (b2.rd0 rfl (kb _ _)) (Runs.cond (fun c2 => Runs.ret ⟨by rw [c, c2]; rfl, g.trans G⟩) fun c2 => ?_)
  refine Runs.step (B2.rd 0 rfl (asSl_v _)) ?_
  rw [n'.len, n.ids.len]
  refine Runs.cond (fun c3 => Runs.ret ⟨?_, g.trans G⟩) fun c3 => ?_
  ·have : ¬ t.cols[i].length = t.ids.length := by simpa [Int.ofNat_inj] using c3
   rw [c, c2, decide_eq_false this]
   rfl
  have c3 : t.cols[i].length = t.ids.length := by simpa [Int.ofNat_inj] using c3
  refine (kkz (n'.grow G) b2).call fun v h3 ⟨ev, g3⟩ => ?_
  subst ev
  refine Runs.step (seen rfl) (Runs.cond (fun c4 => Runs.ret ⟨by rw [c, c2, decide_eq_true c3, c4]; rfl, (g.trans G).trans g3⟩) fun c4 => ?_)
  rw [c, c2, decide_eq_true c3, c4, ki (by omega)]
  exact ih (i + 1) (by omega) ((g.trans G).trans g3) (g3.has B2)
theorem kn4 (n : TabAt h0 S s1 s2 s3 t) : Runs (go (.fn F.kc2 [.agg [s1.v, s2.v, s3.v]]) h0) fun v h' => v = .bool (tabR t) ∧ Grow h0 h' := by
 rw [kow]
 refine Runs.new fun h4 b4 g4 => Runs.step (b4.rd 0 rfl (asSl_v _)) ?_
 refine (kpn (n.ids.grow g4)).call fun v h6 ⟨ev, g6⟩ => ?_
 subst ev
 have B := g6.has b4
 have G := g4.trans g6
 unfold tabR
 refine Runs.step (seen rfl) (Runs.cond (fun c => Runs.ret ⟨by rw [show idsR t.ids = false by simpa using c]; rfl, G⟩) fun c => ?_)
 rw [show idsR t.ids = true by simpa using c, Bool.true_and]
 refine Runs.step (B.rd 2 rfl (asSl_v _)) ?_
 rw [n.cols.len]
 refine Runs.cond (fun c2 => Runs.ret ⟨?_, G⟩) fun c2 => ?_
 ·rw [decide_eq_true_eq] at c2
  rw [decide_eq_true (show t.cols.length > 16 by omega)]
  rfl
 rw [decide_eq_false_iff_not] at c2
 rw [decide_eq_false (show ¬ t.cols.length > 16 by omega)]
 refine Runs.step (B.rd 1 rfl (asSl_v _)) (Runs.step (B.rd 2 rfl (asSl_v _)) ?_)
 rw [n.bins.len, n.cols.len]
 refine Runs.cond (fun c3 => Runs.ret ⟨?_, G⟩) fun c3 => ?_
 ·have : ¬ t.bins.length = t.cols.length := by simpa [Int.ofNat_inj] using c3
  rw [decide_eq_false this]
  rfl
 have c3 : t.bins.length = t.cols.length := by simpa [Int.ofNat_inj] using c3
 rw [decide_eq_true c3]
 refine Runs.step (B.rd 2 rfl (asSl_v _)) ?_
 rw [n.cols.len]
 exact kmp n (by omega) c3 (Nat.le_refl _) t.cols.length 0 (by omega) G B
theorem kpt {s : Sl} {xs : List Int} (n : Sq EI h0 S s xs) (x : Int) (hl : xs.length ≤ 1000000) : ∀ (k i : Nat), i + k = xs.length → (∀ j (hj : j < xs.length), j < i → xs[j] ≠ x) →
  ∃ z, go (.pt F.kcq Td.kfl [(0, s.v), (1, .int .i64 x), (5, .int .i64 (i : Int))]) h0 = some (.int .i64 z, h0) ∧ ∀ t (ht : t < xs.length), xs[t] = x → (z = (t : Int) ↔ ∀ j (hj : j < xs.length), j < t → xs[j] ≠ x) := by
 intro k
 induction k with
 | zero =>
  intro i hi hn
  refine ⟨-1, ?_, fun t ht e => absurd e (hn t ht (by omega))⟩
  rw [kiq, n.len, condF (decide_eq_false (by omega))]
 | succ k ih =>
  intro i hi hn
  have hlt : i < xs.length := by omega
  obtain ⟨r, e1, e2⟩ := n.int hlt
  rw [kiq, e1, n.len, condT (decide_eq_true (by omega)), Option.bind_some, e2, Option.bind_some]
  by_cases hx : xs[i] = x
  ·rw [condT (decide_eq_true hx)]
   refine ⟨_, rfl, fun t ht e => ⟨fun h j hj hjt => hn j hj (by omega), fun h => ?_⟩⟩
   rcases Nat.lt_trichotomy i t with h1 | h1 | h1
   ·exact absurd hx (h i hlt h1)
   ·rw [h1]
   ·exact absurd e (hn t ht h1)
  ·rw [condF (decide_eq_false hx), ki (by omega)]
   refine ih (i + 1) (by omega) fun j hj hji => ?_
   by_cases h1 : j = i
   ·subst h1; exact hx
   ·exact hn j hj (by omega)
theorem kqs {s : Sl} {xs : List Int} (n : Sq EI h0 S s xs) (hl : xs.length ≤ 256) : ∀ (k i : Nat), i + k = xs.length → (∀ j (hj : j < xs.length), j < i → 0 ≤ xs[j] ∧ xs[j] ≤ 1073741824) → (xs.take i).Nodup →
  go (.pt F.kcw Td.kfr [(0, s.v), (3, .int .i64 (i : Int))]) h0 = some (.bool (!(xs.any fun x => decide (x < 0) || decide (x > 1073741824)) && decide xs.Nodup), h0) := by
 intro k
 induction k with
 | zero =>
  intro i hi hr hn
  rw [kjd, n.len, condF (decide_eq_false (by omega))]
  have h1 : (xs.any fun x => decide (x < 0) || decide (x > 1073741824)) = false := by
   rw [List.any_eq_false]
   intro x hx
   obtain ⟨j, hj, rfl⟩ := List.getElem_of_mem hx
   have := hr j hj (by omega)
   simp
   omega
  rw [show i = xs.length by omega, List.take_length] at hn
  rw [h1, decide_eq_true hn]
  rfl
 | succ k ih =>
  intro i hi hr hn
  have hlt : i < xs.length := by omega
  obtain ⟨r, e1, e2⟩ := n.int hlt
  rw [kjd, e1, n.len, condT (decide_eq_true (by omega))]
  rw [n.len] at e1
  simp only [Option.bind_some, e1, e2]
  have bad : (xs[i] < 0 ∨ xs[i] > 1073741824) → (xs.any fun x => decide (x < 0) || decide (x > 1073741824)) = true := fun h => by
   rw [List.any_eq_true]
   exact ⟨xs[i], List.getElem_mem hlt, by simpa using h⟩
  by_cases c1 : xs[i] < 0
  ·rw [condT (decide_eq_true c1), bad (.inl c1)]
   rfl
  rw [condF (decide_eq_false c1)]
  by_cases c2 : xs[i] > 1073741824
  ·rw [condT (decide_eq_true c2), bad (.inr c2)]
   rfl
  rw [condF (decide_eq_false c2)]
  obtain ⟨z, e3, hz⟩ := kpt n xs[i] (by omega) xs.length 0 (by omega) fun j hj h => by omega
  have hz := hz i hlt rfl
  have hu : go (.fn F.kcq [s.v, .int .i64 xs[i]]) h0 = some (.int .i64 z, h0) := by
   rw [kpp]
   exact e3
  rw [hu]
  simp only [Option.bind_some, kb]
  have ht : xs.take (i + 1) = xs.take i ++ [xs[i]] := List.take_succ_eq_append_getElem hlt
  by_cases c3 : z = (i : Int)
  ·rw [condF (by rw [decide_eq_true c3]; rfl), ki (by omega)]
   refine ih (i + 1) (by omega) (fun j hj hji => ?_) ?_
   ·by_cases h1 : j = i
    ·subst h1; omega
    ·exact hr j hj (by omega)
   ·rw [ht, List.nodup_append]
    refine ⟨hn, by simp, fun a ha b hb => ?_⟩
    rw [List.mem_singleton] at hb
    subst hb
    rintro rfl
    obtain ⟨j, hj, e⟩ := List.getElem_of_mem ha
    rw [List.getElem_take] at e
    rw [List.length_take] at hj
    exact hz.1 c3 j (by omega) (by omega) e
  ·rw [condT (by rw [decide_eq_false c3]; rfl)]
   have : ¬ xs.Nodup := fun h => c3 (hz.2 fun j hj hji e => by
    have := (List.nodup_iff_pairwise_ne.1 h)
    rw [List.pairwise_iff_getElem] at this
    exact this j i hj hlt hji e)
   rw [decide_eq_false this, Bool.and_false]
theorem kpv {s : Sl} {xs : List Int} (n : Sq EI h0 S s xs) : go (.fn F.kcw [s.v]) h0 = some (.bool (idsR xs), h0) := by
 rw [kqw, n.len]
 unfold idsR
 by_cases c : xs.length > 256
 ·rw [condT (decide_eq_true (by omega)), decide_eq_false (by omega)]
  rfl
 ·rw [condF (decide_eq_false (by omega)), decide_eq_true (show xs.length ≤ 256 by omega), Bool.true_and]
  exact kqs n (by omega) xs.length 0 (by omega) (fun j hj h => by omega) (by simp)
theorem kqu (n : TabAt h0 S s1 s2 s3 t) {b : Nat} (B : h0.has b [s1.v, s2.v, s3.v] T.k8) {i : Nat} (hc : i < t.cols.length) (hl : t.cols.length ≤ 16) (hb : t.bins.length = t.cols.length) (hi : t.cols[i].length = t.ids.length) (hids : t.ids.length ≤ 256) : ∀ (k j : Nat), j + k = t.ids.length →
  go (.pt F.kbs Td.kff [(1, .ptr (some (.new b 0))), (4, .int .i64 (i : Int)), (5, .int .i64 (j : Int))]) h0 = cond ((t.cols[i].drop j).any fun x => decide (x < 0) || decide (x ≥ t.bins[i])) (some (.bool false, h0)) (go (.pt F.kbs Td.kdz [(1, .ptr (some (.new b 0))), (4, .int .i64 ((i + 1 : Nat) : Int))]) h0) := by
 have hbi : i < t.bins.length := by omega
 obtain ⟨r, s', e1, e2, -, n'⟩ := n.cols.sl hc
 obtain ⟨r2, e3, e4⟩ := n.bins.int hbi
 intro k
 induction k with
 | zero =>
  intro j hj
  rw [ki9, B.rd 0 rfl (asSl_v _), Option.bind_some, n.ids.len, condF (decide_eq_false (by omega)), ki (by omega), List.drop_of_length_le (by omega)]
  rfl
 | succ k ih =>
  intro j hj
  have hjc : j < t.cols[i].length := by omega
  obtain ⟨r3, e5, e6⟩ := n'.int hjc
  rw [ki9, B.rd 0 rfl (asSl_v _), Option.bind_some, n.ids.len, condT (decide_eq_true (by omega)), B.rd 2 rfl (asSl_v _)]
  simp only [Option.bind_some, e1, e2, e5, e6, B.rd 1 rfl (asSl_v _), e3, e4]
  rw [List.drop_eq_getElem_cons hjc, List.any_cons]
  by_cases c1 : t.cols[i][j] < 0
  ·rw [condT (decide_eq_true c1), decide_eq_true c1]
   rfl
  rw [condF (decide_eq_false c1), decide_eq_false c1, Bool.false_or]
  by_cases c2 : t.cols[i][j] ≥ t.bins[i]
  ·rw [condT (decide_eq_true c2), decide_eq_true c2]
   rfl
  rw [condF (decide_eq_false c2), decide_eq_false c2, Bool.false_or, ki (by omega)]
  exact ih (j + 1) (by omega)
theorem klq (n : TabAt h0 S s1 s2 s3 t) {b : Nat} (B : h0.has b [s1.v, s2.v, s3.v] T.k8) (hl : t.cols.length ≤ 16) (hb : t.bins.length = t.cols.length) (hids : t.ids.length ≤ 256) : ∀ (k i : Nat), i + k = t.cols.length →
  go (.pt F.kbs Td.kdz [(1, .ptr (some (.new b 0))), (4, .int .i64 (i : Int))]) h0 = some (.bool (((List.range t.cols.length).drop i).all (colR t)), h0) := by
 intro k
 induction k with
 | zero =>
  intro i hi
  rw [kkg, B.rd 2 rfl (asSl_v _), Option.bind_some, n.cols.len, condF (decide_eq_false (by omega)), kcm (by simp; omega)]
 | succ k ih =>
  intro i hi
  have hc : i < t.cols.length := by omega
  have hbi : i < t.bins.length := by omega
  obtain ⟨r, s', e1, e2, -, n'⟩ := n.cols.sl hc
  obtain ⟨r2, e3, e4⟩ := n.bins.int hbi
  have hcol : colR t i = (!decide (t.bins[i] < 2) && !decide (t.bins[i] > 32) && decide (t.cols[i].length = t.ids.length) && !(t.cols[i].any fun x => decide (x < 0) || decide (x ≥ t.bins[i]))) := by
   simp [colR, List.getD, hbi, hc]
  rw [kda hc, hcol]
  rw [kkg, B.rd 2 rfl (asSl_v _), Option.bind_some, n.cols.len, condT (decide_eq_true (by omega)), B.rd 1 rfl (asSl_v _), Option.bind_some, e3, Option.bind_some, e4, Option.bind_some]
  simp only [Option.bind_some, B.rd 0 rfl (asSl_v _), e1, e2, e3, e4]
  by_cases c1 : t.bins[i] < 2
  ·rw [condT (decide_eq_true c1), decide_eq_true c1]
   rfl
  rw [condF (decide_eq_false c1), decide_eq_false c1]
  by_cases c2 : t.bins[i] > 32
  ·rw [condT (decide_eq_true c2), decide_eq_true c2]
   rfl
  rw [condF (decide_eq_false c2), decide_eq_false c2, n'.len, n.ids.len]
  by_cases c3 : t.cols[i].length = t.ids.length
  ·rw [condF (by rw [decide_eq_true (by omega)]; rfl), decide_eq_true c3, show (0 : Int) = ((0 : Nat) : Int) from rfl, kqu n B hc hl hb c3 hids t.ids.length 0 (by omega), List.drop_zero]
   cases (t.cols[i].any fun x => decide (x < 0) || decide (x ≥ t.bins[i])) with
   | true => rfl
   | false => rw [cond_false, ih (i + 1) (by omega)]; rfl
  ·rw [condT (by rw [decide_eq_false (by omega)]; rfl), decide_eq_false c3]
   rfl
theorem kmr (n : TabAt h0 S s1 s2 s3 t) : Runs (go (.fn F.kbs [.agg [s1.v, s2.v, s3.v]]) h0) fun v h' => v = .bool (tabR t) ∧ Grow h0 h' := by
 rw [knq]
 refine Runs.new fun h4 B G => Runs.step (B.rd 0 rfl (asSl_v _)) ?_
 refine Runs.step (kpv (n.ids.grow G)) ?_
 unfold tabR
 refine Runs.step (seen rfl) (Runs.cond (fun c => Runs.ret ⟨by rw [show idsR t.ids = false by simpa using c]; rfl, G⟩) fun c => ?_)
 have c : idsR t.ids = true := by simpa using c
 rw [c, Bool.true_and]
 refine Runs.step (B.rd 2 rfl (asSl_v _)) ?_
 rw [n.cols.len]
 refine Runs.cond (fun c2 => Runs.ret ⟨?_, G⟩) fun c2 => ?_
 ·rw [decide_eq_true_eq] at c2
  rw [decide_eq_true (show t.cols.length > 16 by omega)]
  rfl
 rw [decide_eq_false_iff_not] at c2
 rw [decide_eq_false (show ¬ t.cols.length > 16 by omega)]
 refine Runs.step (B.rd 1 rfl (asSl_v _)) (Runs.step (B.rd 2 rfl (asSl_v _)) ?_)
 rw [n.bins.len, n.cols.len]
 refine Runs.cond (fun c3 => Runs.ret ⟨?_, G⟩) fun c3 => ?_
 ·have : ¬ t.bins.length = t.cols.length := by simpa [Int.ofNat_inj] using c3
  rw [decide_eq_false this]
  rfl
 have c3 : t.bins.length = t.cols.length := by simpa [Int.ofNat_inj] using c3
 rw [decide_eq_true c3]
 have hids : t.ids.length ≤ 256 := by
  unfold idsR at c
  simp at c
  exact c.1
 have := klq (n.grow G) B (by omega) c3 hids t.cols.length 0 (by omega)
 exact ⟨_, _, this, rfl, G⟩
end
end Go.Ab

/- squeezed -/
set_option linter.unusedVariables false
set_option linter.unusedSimpArgs false
set_option maxRecDepth 10000
namespace Go.Ab
open Go.Proofs
theorem AH.has.at {h : AH} {i : Nat} {cs : List AV} {e : TypeId} (b : h.has i cs e) {k : Nat} {v : AV} (hk : cs[k]? = some v) : h.cell (.new i k) = some v := (b.cell k).trans hk
theorem Runs.yieldF {f : FuncId} {a c xs : List AV} {A : Nat × List AV → Option (AV × AH)} {B : Option (AV × AH)} {P : AV → AH → Prop} (H : Runs B P) : Runs (yieldK (.func (.func f) a c) xs A B) P := H
def Nd.may (x : Nd) (i n : Int) : Prop := if x.leaf = true then (-1099511627776 ≤ x.weight ∧ x.weight ≤ 1099511627776 ∧ x.party = 0 ∧ x.feature = 0 ∧ x.cut = 0 ∧ x.left = 0 ∧ x.right = 0)
 else (x.weight = 0 ∧ 0 ≤ x.party ∧ x.party ≤ 15 ∧ 0 ≤ x.feature ∧ x.feature ≤ 1073741824 ∧ 0 ≤ x.cut ∧ x.cut ≤ 31 ∧ i < x.left ∧ x.left < n ∧ i < x.right ∧ x.right < n ∧ x.left ≠ x.right)
instance Nd.mayDec (x : Nd) (i n : Int) : Decidable (x.may i n) := by unfold Nd.may; exact inferInstance
theorem kj7 (a b c : Int) (h : AH) : callV Pg go (.func (.func F.kck) [] []) [.int .i64 a, .int .i64 b, .int .i64 c] h = some (.bool (decide (b ≤ a) && decide (a ≤ c)), h) := by
 show callF Pg go F.kck _ h = _
 rw [km8]
 show go (.fn F.kck [.int .i64 a, .int .i64 b, .int .i64 c]) h = _
 rw [kpu]
 by_cases k : a ≥ b
 ·rw [condT (decide_eq_true k), decide_eq_true (show b ≤ a from k)]; rfl
 ·rw [condF (decide_eq_false k), decide_eq_false (show ¬ b ≤ a from k)]; rfl
theorem kli {h : AH} {a i n : Int} {x y z : Nat} {e1 e2 e3 : TypeId} (b1 : h.has x [.func (.func F.kck) [] []] e1) (b2 : h.has y [.int .i64 i] e2) (b3 : h.has z [.int .i64 n] e3) (hi : 0 ≤ i ∧ i ≤ 1000) (hn : 0 ≤ n ∧ n ≤ 1000) :
  go (.fn F.ku [.int .i64 a, .ptr (some (.new x 0)), .ptr (some (.new y 0)), .ptr (some (.new z 0))]) h = some (.bool (decide (i < a) && decide (a < n)), h) := by
 have : Runs (go (.fn F.ku [.int .i64 a, .ptr (some (.new x 0)), .ptr (some (.new y 0)), .ptr (some (.new z 0))]) h) fun v h' => v = .bool (decide (i < a) && decide (a < n)) ∧ h' = h := by
  rw [kll]
  refine Runs.step (b1.at rfl) (Runs.step (b2.rd0 rfl (kb _ _)) (Runs.step (b3.rd0 rfl (kb _ _)) (Runs.yieldF ?_)))
  refine Runs.step (kj7 _ _ _ _) (Runs.step (seen rfl) (Runs.ret ⟨congrArg AV.bool ?_, rfl⟩))
  have w1 : IntKind.wrap .i64 (i + 1) = i + 1 := wrap64 (by omega) (by omega)
  have w2 : IntKind.wrap .i64 (n - 1) = n - 1 := wrap64 (by omega) (by omega)
  rw [w1, w2]
  congr 1 <;> rw [decide_eq_decide] <;> omega
 obtain ⟨_, _, e, rfl, rfl⟩ := this
 exact e
theorem kns {h : AH} (x : Nd) {i n : Int} (hi : 0 ≤ i ∧ i ≤ 1000) (hn : 0 ≤ n ∧ n ≤ 1000) : Runs (go (.fn F.kem [.agg x.cells, .int .i64 i, .int .i64 n]) h) fun v h' => v = .bool (decide (x.may i n)) ∧ Grow h h' := by
 obtain ⟨leaf, w, p, f, c, l, r⟩ := x
 show Runs (go (.fn F.kem [.agg [.bool leaf, .int .i64 w, .int .i64 p, .int .i64 f, .int .i64 c, .int .i64 l, .int .i64 r], .int .i64 i, .int .i64 n]) h) _
 rw [km1]
 refine Runs.new fun h1 b1 g1 => Runs.new fun h2 b2 g2 => Runs.new fun h3 b3 g3 => Runs.new fun h4 b4 g4 => Runs.puts b4 rfl fun h5 b5 u5 => ?_
 have g5 := (Grow.refl h3).trans g4 |>.updr (Nat.le_refl _) u5
 have b1 := (g2.trans (g3.trans g5)).has b1
 have b2 := (g3.trans g5).has b2
 have b3 := g5.has b3
 have G := g1.trans (g2.trans (g3.trans g5))
 have fin : ∀ {b : Bool}, (b = true ↔ Nd.may ⟨leaf, w, p, f, c, l, r⟩ i n) → Runs (some (.bool b, h5)) fun v h' => v = .bool (decide (Nd.may ⟨leaf, w, p, f, c, l, r⟩ i n)) ∧ Grow h h' := fun {b} e => Runs.ret ⟨congrArg AV.bool (by
  rw [Bool.eq_iff_iff, decide_eq_true_eq]
  exact e), G⟩
 cases leaf
 all_goals
  repeat' first
   | refine Runs.yieldF ?_
   | refine Runs.step (kj7 _ _ _ _) ?_
   | refine Runs.step (kli b5 b2 b3 hi hn) ?_
   | refine Runs.step (AH.has.rd (by assumption) _ rfl (by first | exact kb _ _ | rfl)) ?_
   | refine Runs.step (AH.has.at (by assumption) rfl) ?_
   | refine Runs.step (seen rfl) ?_
   | refine Runs.cond (fun k => ?_) (fun k => ?_)
  all_goals
   refine fin ?_
   simp [Nd.may] at *
   try omega
theorem kql {h : AH} (x : Nd) {i n : Int} : Runs (go (.fn F.kes [.agg x.cells, .int .i64 i, .int .i64 n]) h) fun v h' => v = .bool (decide (x.may i n)) ∧ Grow h h' := by
 obtain ⟨leaf, w, p, f, c, l, r⟩ := x
 show Runs (go (.fn F.kes [.agg [.bool leaf, .int .i64 w, .int .i64 p, .int .i64 f, .int .i64 c, .int .i64 l, .int .i64 r], .int .i64 i, .int .i64 n]) h) _
 rw [klc]
 refine Runs.new fun h5 b1 G => ?_
 have fin : ∀ {b : Bool}, (b = true ↔ Nd.may ⟨leaf, w, p, f, c, l, r⟩ i n) → Runs (some (.bool b, h5)) fun v h' => v = .bool (decide (Nd.may ⟨leaf, w, p, f, c, l, r⟩ i n)) ∧ Grow h h' := fun {b} e => Runs.ret ⟨congrArg AV.bool (by
  rw [Bool.eq_iff_iff, decide_eq_true_eq]
  exact e), G⟩
 cases leaf
 all_goals
  repeat' first
   | refine Runs.step (AH.has.rd (by assumption) _ rfl (by first | exact kb _ _ | rfl)) ?_
   | refine Runs.cond (fun k => ?_) (fun k => ?_)
  all_goals
   refine fin ?_
   simp [Nd.may] at *
   try omega
end Go.Ab

/- squeezed -/
set_option linter.unusedVariables false
set_option linter.unusedSimpArgs false
set_option maxRecDepth 10000
namespace Go.Ab
open Go.Proofs
abbrev EM : Ef (List Nd) := Ef.seq Ef.nd
def Nd.no : Nd := ⟨false, 0, 0, 0, 0, 0, 0⟩
def nodesR (l : List Nd) (i : Nat) : Bool := decide ((l.getD i Nd.no).may (i : Int) (l.length : Int))
def treeR (l : List Nd) : Bool := !decide (l.length < 1) && !decide (l.length > 63) && (List.range l.length).all (nodesR l)
def modR (m : List (List Nd)) : Bool := !decide (m.length > 16) && m.all treeR
section
variable {h0 : AH} {S : Fp} {s : Sl} {m : List (List Nd)}
theorem ko2 {l : List Nd} {t : Sl} (n : Sq Ef.nd h0 S t l) (hl : l.length ≤ 63) {b : Nat} (hb : h0.has b [t.v] T.kbf) (hl2 : m.length ≤ 16) {z : Nat} (hz : z < m.length) : ∀ (k i : Nat), i + k = l.length → ∀ {h : AH}, Grow h0 h →
  (∀ h', Grow h0 h' → Runs (go (.pt F.kbo Td.kdx [(12, s.v), (13, .int .i64 (m.length : Int)), (14, .int .i64 ((z + 1 : Nat) : Int))]) h') fun v h'' => v = .bool ((m.drop (z + 1)).all treeR) ∧ Grow h' h'') →
  Runs (go (.pt F.kbo Td.kfq [(4, .ptr (some (.new b 0))), (12, s.v), (13, .int .i64 (m.length : Int)), (14, .int .i64 (z : Int)), (29, t.v), (30, .int .i64 (l.length : Int)), (31, .int .i64 (i : Int))]) h) fun v h' => v = .bool (((List.range l.length).drop i).all (nodesR l) && (m.drop (z + 1)).all treeR) ∧ Grow h0 h' := by
 intro k
 induction k with
 | zero =>
  intro i hi h g next
  rw [kjv]
  refine Runs.ifF (decide_eq_false (by omega)) ?_
  rw [ki (by omega), kcm (by simp; omega), Bool.true_and]
  exact (next h g).imp fun v h' ⟨a, b⟩ => ⟨a, g.trans b⟩
 | succ k ih =>
  intro i hi h g next
  have hlt : i < l.length := by omega
  obtain ⟨r, e, e0, e1, e2, e3, e4, e5, e6⟩ := (n.grow g).nd hlt
  rw [kjv]
  refine Runs.ifT (decide_eq_true (by omega)) (Runs.step e (Runs.step e0 (Runs.step e1 (Runs.step e2 (Runs.step e3 (Runs.step e4 (Runs.step e5 (Runs.step e6 ?_))))))))
  refine Runs.new fun h1 b1 g1 => Runs.puts b1 rfl fun h2 b2 u2 => ?_
  have G : Grow h h2 := g1.updr (Nat.le_refl _) u2
  have hb2 := (g.trans G).has hb
  repeat refine Runs.step (AH.has.rd (by assumption) _ rfl (by first | exact kb _ _ | exact asSl_v _ | rfl)) ?_
  rw [n.len]
  refine (kns l[i] (i := (i : Int)) (n := (l.length : Int)) (by omega) (by omega)).call fun v h3 ⟨ev, g3⟩ => ?_
  subst ev
  refine Runs.step (seen rfl) ?_
  have hn : nodesR l i = decide (l[i].may (i : Int) (l.length : Int)) := by simp [nodesR, List.getD, hlt]
  rw [kda hlt, hn]
  refine Runs.cond (fun c => Runs.ret ⟨?_, (g.trans G).trans g3⟩) fun c => ?_
  ·rw [Bool.not_eq_true'] at c
   rw [c]; rfl
  ·rw [Bool.not_eq_false'] at c
   rw [c, Bool.true_and, ki (by omega)]
   exact ih (i + 1) (by omega) ((g.trans G).trans g3) next
theorem kof (n : Sq EM h0 S s m) (hl : m.length ≤ 16) : ∀ (k z : Nat), z + k = m.length → ∀ {h : AH}, Grow h0 h →
  Runs (go (.pt F.kbo Td.kdx [(12, s.v), (13, .int .i64 (m.length : Int)), (14, .int .i64 (z : Int))]) h) fun v h' => v = .bool ((m.drop z).all treeR) ∧ Grow h h' := by
 intro k
 induction k with
 | zero =>
  intro z hz h g
  rw [kja]
  refine Runs.ifF (decide_eq_false (by omega)) (Runs.ret ⟨by rw [kcm (by omega)], Grow.refl _⟩)
 | succ k ih =>
  intro z hz h g
  have hlt : z < m.length := by omega
  obtain ⟨r, t, e1, -, e2, n'⟩ := (n.grow g).sl hlt
  rw [kja]
  refine Runs.ifT (decide_eq_true (by omega)) (Runs.step e1 (Runs.step e2 ?_))
  refine Runs.new fun h1 b1 g1 => Runs.puts b1 rfl fun h2 b2 u2 => ?_
  have G : Grow h h2 := g1.updr (Nat.le_refl _) u2
  refine Runs.step (b2.rd 0 rfl (asSl_v _)) ?_
  rw [n'.len, kg9 hlt]
  unfold treeR
  refine Runs.cond (fun c => Runs.ret ⟨?_, G⟩) fun c => ?_
  ·rw [decide_eq_true_eq] at c
   rw [decide_eq_true (show m[z].length < 1 by omega)]; rfl
  rw [decide_eq_false_iff_not] at c
  rw [decide_eq_false (show ¬ m[z].length < 1 by omega)]
  refine Runs.step (b2.rd 0 rfl (asSl_v _)) ?_
  rw [n'.len]
  refine Runs.cond (fun c2 => Runs.ret ⟨?_, G⟩) fun c2 => ?_
  ·rw [decide_eq_true_eq] at c2
   rw [decide_eq_true (show m[z].length > 63 by omega)]; rfl
  rw [decide_eq_false_iff_not] at c2
  rw [decide_eq_false (show ¬ m[z].length > 63 by omega)]
  refine Runs.step (b2.rd 0 rfl (asSl_v _)) ?_
  rw [n'.len]
  refine (ko2 (n'.grow G) (by omega) b2 hl hlt m[z].length 0 (by omega) (Grow.refl _) fun h' g' => ih (z + 1) (by omega) ((g.trans G).trans g')).imp fun v h' ⟨a, b⟩ => ⟨?_, G.trans b⟩
  rw [a]
  rfl
theorem klj (n : Sq EM h0 S s m) : Runs (go (.fn F.kbo [.agg [s.v]]) h0) fun v h' => v = .bool (modR m) ∧ Grow h0 h' := by
 rw [kp2]
 refine Runs.new fun h2 b2 g2 => Runs.step (b2.rd 0 rfl (asSl_v _)) ?_
 rw [n.len]
 unfold modR
 refine Runs.cond (fun c => Runs.ret ⟨?_, g2⟩) fun c => ?_
 ·rw [decide_eq_true_eq] at c
  rw [decide_eq_true (show m.length > 16 by omega)]; rfl
 rw [decide_eq_false_iff_not] at c
 rw [decide_eq_false (show ¬ m.length > 16 by omega)]
 refine Runs.step (b2.rd 0 rfl (asSl_v _)) ?_
 rw [n.len]
 exact (kof n (by omega) m.length 0 (by omega) g2).imp fun v h' ⟨a, b⟩ => ⟨a, g2.trans b⟩
theorem kmv {l : List Nd} {t : Sl} (n : Sq Ef.nd h0 S t l) (hl : l.length ≤ 63) {b : Nat} (hl2 : m.length ≤ 16) {z : Nat} (hz : z < m.length) : ∀ (k i : Nat), i + k = l.length → ∀ {h : AH}, Grow h0 h →
  (∀ h', Grow h0 h' → Runs (go (.pt F.kbu Td.kec [(1, .ptr (some (.new b 0))), (3, .int .i64 ((z + 1 : Nat) : Int))]) h') fun v h'' => v = .bool ((m.drop (z + 1)).all treeR) ∧ Grow h' h'') →
  Runs (go (.pt F.kbu Td.kfo [(1, .ptr (some (.new b 0))), (3, .int .i64 (z : Int)), (4, t.v), (5, .int .i64 (i : Int))]) h) fun v h' => v = .bool (((List.range l.length).drop i).all (nodesR l) && (m.drop (z + 1)).all treeR) ∧ Grow h0 h' := by
 intro k
 induction k with
 | zero =>
  intro i hi h g next
  rw [kjr, n.len]
  refine Runs.ifF (decide_eq_false (by omega)) ?_
  rw [ki (by omega), kcm (by simp; omega), Bool.true_and]
  exact (next h g).imp fun v h' ⟨a, b⟩ => ⟨a, g.trans b⟩
 | succ k ih =>
  intro i hi h g next
  have hlt : i < l.length := by omega
  obtain ⟨r, e, e0, e1, e2, e3, e4, e5, e6⟩ := (n.grow g).nd hlt
  rw [kjr, n.len]
  rw [n.len] at e
  refine Runs.ifT (decide_eq_true (by omega)) (Runs.step e (Runs.step e0 (Runs.step e1 (Runs.step e2 (Runs.step e3 (Runs.step e4 (Runs.step e5 (Runs.step e6 ?_))))))))
  refine (kql l[i] (i := (i : Int)) (n := (l.length : Int))).call fun v h3 ⟨ev, g3⟩ => ?_
  subst ev
  refine Runs.step (seen rfl) ?_
  have hn : nodesR l i = decide (l[i].may (i : Int) (l.length : Int)) := by simp [nodesR, List.getD, hlt]
  rw [kda hlt, hn]
  refine Runs.cond (fun c => Runs.ret ⟨?_, g.trans g3⟩) fun c => ?_
  ·rw [Bool.not_eq_true'] at c
   rw [c]; rfl
  ·rw [Bool.not_eq_false'] at c
   rw [c, Bool.true_and, ki (by omega)]
   exact ih (i + 1) (by omega) (g.trans g3) next
theorem kqm (n : Sq EM h0 S s m) (hl : m.length ≤ 16) {b : Nat} (hb : h0.has b [s.v] T.kbc) : ∀ (k z : Nat), z + k = m.length → ∀ {h : AH}, Grow h0 h →
  Runs (go (.pt F.kbu Td.kec [(1, .ptr (some (.new b 0))), (3, .int .i64 (z : Int))]) h) fun v h' => v = .bool ((m.drop z).all treeR) ∧ Grow h h' := by
 intro k
 induction k with
 | zero =>
  intro z hz h g
  rw [kic]
  refine Runs.step ((g.has hb).rd 0 rfl (asSl_v _)) ?_
  rw [n.len]
  refine Runs.ifF (decide_eq_false (by omega)) (Runs.ret ⟨by rw [kcm (by omega)], Grow.refl _⟩)
 | succ k ih =>
  intro z hz h g
  have hlt : z < m.length := by omega
  obtain ⟨r, t, e1, -, e2, n'⟩ := (n.grow g).sl hlt
  rw [kic]
  refine Runs.step ((g.has hb).rd 0 rfl (asSl_v _)) ?_
  rw [n.len]
  rw [n.len] at e1
  refine Runs.ifT (decide_eq_true (by omega)) (Runs.step ((g.has hb).rd 0 rfl (asSl_v _)) ?_)
  rw [n.len]
  refine Runs.step e1 (Runs.step e2 ?_)
  rw [n'.len, kg9 hlt]
  unfold treeR
  refine Runs.cond (fun c => Runs.ret ⟨?_, Grow.refl _⟩) fun c => ?_
  ·rw [decide_eq_true_eq] at c
   rw [decide_eq_true (show m[z].length < 1 by omega)]; rfl
  rw [decide_eq_false_iff_not] at c
  rw [decide_eq_false (show ¬ m[z].length < 1 by omega)]
  refine Runs.cond (fun c2 => Runs.ret ⟨?_, Grow.refl _⟩) fun c2 => ?_
  ·rw [decide_eq_true_eq] at c2
   rw [decide_eq_true (show m[z].length > 63 by omega)]; rfl
  rw [decide_eq_false_iff_not] at c2
  rw [decide_eq_false (show ¬ m[z].length > 63 by omega)]
  exact kmv n' (by omega) hl hlt m[z].length 0 (by omega) (Grow.refl _) fun h' g' => ih (z + 1) (by omega) (g.trans g')
theorem koj (n : Sq EM h0 S s m) : Runs (go (.fn F.kbu [.agg [s.v]]) h0) fun v h' => v = .bool (modR m) ∧ Grow h0 h' := by
 rw [klp]
 refine Runs.new fun h2 b2 g2 => Runs.step (b2.rd 0 rfl (asSl_v _)) ?_
 rw [n.len]
 unfold modR
 refine Runs.cond (fun c => Runs.ret ⟨?_, g2⟩) fun c => ?_
 ·rw [decide_eq_true_eq] at c
  rw [decide_eq_true (show m.length > 16 by omega)]; rfl
 rw [decide_eq_false_iff_not] at c
 rw [decide_eq_false (show ¬ m.length > 16 by omega)]
 exact (kqm (n.grow g2) (by omega) b2 m.length 0 (by omega) (Grow.refl _)).imp fun v h' ⟨a, b⟩ => ⟨a, g2.trans b⟩
end
end Go.Ab

/- squeezed -/
set_option linter.unusedVariables false
set_option linter.unusedSimpArgs false
set_option maxRecDepth 10000
namespace Go.Ab
open Go.Proofs
def oddI (x : Int) : Bool := decide (x < 0) || decide (x > 1073741824)
def natNo (x : List Nat) : Bool := !rt x || decide (x.length > 4)
def riseOk (l : List Int) (i : Nat) : Bool := decide (i = 0) || !decide (l.getD i 0 ≤ l.getD (i - 1) 0)
structure Ms where
 kind : Int
 a : Int
 b : Int
 c : Int
 ids : List Int
 rows : List Int
 nats : List (List Nat)
 deriving DecidableEq
structure MsAt (h : AH) (S : Fp) (s5 s6 s7 : Sl) (m : Ms) : Prop where
 ids : Sq EI h S s5 m.ids
 rows : Sq EI h S s6 m.rows
 nats : Sq Ef.nats h S s7 m.nats
theorem MsAt.grow {h h' : AH} {S : Fp} {s5 s6 s7 : Sl} {m : Ms} (n : MsAt h S s5 s6 s7 m) (g : Grow h h') : MsAt h' S s5 s6 s7 m := ⟨n.ids.grow g, n.rows.grow g, n.nats.grow g⟩
theorem MsAt.md {h h' : AH} {S T : Fp} {s5 s6 s7 : Sl} {m : Ms} (n : MsAt h S s5 s6 s7 m) (d : Md T h h') (x : Dis S T) : MsAt h' S s5 s6 s7 m := ⟨n.ids.md d x, n.rows.md d x, n.nats.md d x⟩
@[reducible] def Ms.cells (m : Ms) (s5 s6 s7 : Sl) : List AV := [.int .i64 m.kind, .int .i64 m.a, .int .i64 m.b, .int .i64 m.c, s5.v, s6.v, s7.v]
def Ms.end' (m : Ms) : Prop := (m.kind = 1 → m.nats.length = 1) ∧ (m.kind = 5 → m.nats.length = m.ids.length) ∧ (m.kind = 6 → m.ids.length ≠ 0) ∧ (m.kind = 9 → m.c ≤ 1)
def Ms.lists (m : Ms) : Prop := (m.ids.length ≤ 16384 ∧ (m.kind = 5 ∨ m.kind = 6 ∨ m.ids.length = 0) ∧ m.ids.any oddI = false) ∧ (m.rows.length ≤ 16384 ∧ (m.kind = 4 ∨ m.kind = 7 ∨ m.rows.length = 0) ∧ m.rows.any oddI = false) ∧
 (m.nats.length ≤ 16384 ∧ (m.kind = 1 ∨ m.kind = 3 ∨ m.kind = 5 ∨ m.nats.length = 0) ∧ m.nats.any natNo = false) ∧ (List.range m.rows.length).all (riseOk m.rows) = true
def Ms.heads (m : Ms) : Prop := 1 ≤ m.kind ∧ m.kind ≤ 11 ∧ oddI m.a = false ∧ oddI m.b = false ∧ oddI m.c = false ∧ ((m.kind = 3 ∨ m.kind = 10 ∨ m.kind = 11) → m.b = 0) ∧ (¬ (m.kind = 7 ∨ m.kind = 9) → m.c = 0)
def Ms.ok (m : Ms) : Prop := m.heads ∧ m.lists ∧ m.end'
theorem AH.has.rdo {A : Type} {f : AV → Option A} {h : AH} {i : Nat} {cs : List AV} {e : TypeId} (b : h.has i cs e) (o k : Nat) {v : AV} {x : A} (hk : cs[o + k]? = some v) (hf : f v = some x) : (h.cell ((Ref.new i o).add k)).bind f = some x := by
 rw [Ref.add_new, b.cell, hk]
 exact hf
theorem kfa (x : Int) (h : AH) : go (.fn F.kr [.int .i64 x]) h = some (.bool (oddI x), h) := by
 rw [kq7]
 unfold oddI
 cases decide (x < 0) <;> rfl
section
variable {h0 : AH} {S : Fp}
theorem knl {s : Sl} {xs : List Int} (n : Sq EI h0 S s xs) : Runs (go (.fn F.kbz [s.v, .func (.func F.kr) [] []]) h0) fun v h' => v = .bool (xs.any oddI) ∧ Grow h0 h' := by
 rw [kln]
 refine Runs.contains (xs := xs) ?_
 rw [kml, n.len]
 refine kdt (n := xs.length) (G := fun z h => go (.pt F.kv Td.kbp [(0, s.v), (1, .func (.func F.kr) [] []), (7, .int .i64 (xs.length : Int)), (8, .int .i64 z)]) h) (fun i h P hi g hT hF => ?_) (fun h g => ?_) xs.length 0 (by omega) (Grow.refl h0) (fun j hj => by omega)
 ·obtain ⟨r, e1, e2⟩ := (n.grow g).int hi
  rw [List.getElem?_eq_getElem hi] at hT hF
  simp only [Option.any_some] at hT hF
  show Runs (go _ _) _
  rw [khq]
  refine Runs.ifT (decide_eq_true (by omega)) (Runs.step e1 (Runs.step e2 ?_))
  refine Runs.step (kfa _ _) (Runs.step (seen rfl) ?_)
  rw [ki (by have := n.short; omega)]
  exact Runs.cond (fun c => Runs.ret (hT h g c)) fun c => hF h g c
 ·rw [khq, condF (decide_eq_false (by omega))]
theorem kid {s : Sl} {xs : List Int} (n : Sq EI h0 S s xs) (b : Bool) : Runs (go (.fn F.ked [s.v, .bool b, .func (.func F.kr) [] []]) h0) fun v h' => v = .bool (decide (xs.length ≤ 16384) && (b || decide (xs.length = 0)) && !xs.any oddI) ∧ Grow h0 h' := by
 rw [kr1, n.len]
 have W := knl n
 by_cases c : xs.length ≤ 16384
 ·refine Runs.ifT (decide_eq_true (by omega)) ?_
  rw [decide_eq_true c]
  cases b
  ·by_cases c2 : xs.length = 0
   ·refine Runs.ifF rfl (Runs.ifT (decide_eq_true (by omega)) (W.call fun v h' ⟨e, g⟩ => ?_))
    subst e
    exact Runs.step (seen rfl) (Runs.ret ⟨by rw [decide_eq_true c2]; rfl, g⟩)
   ·exact Runs.ifF rfl (Runs.ifF (decide_eq_false (by omega)) (Runs.ret ⟨by rw [decide_eq_false c2]; rfl, Grow.refl _⟩))
  ·refine Runs.ifT rfl (W.call fun v h' ⟨e, g⟩ => ?_)
   subst e
   exact Runs.step (seen rfl) (Runs.ret ⟨rfl, g⟩)
 ·exact Runs.ifF (decide_eq_false (by omega)) (Runs.ret ⟨by rw [decide_eq_false c]; rfl, Grow.refl _⟩)
theorem kod {s : Sl} {x : List Nat} {h : AH} (n : Nats h s x) : go (.fn F.kba [s.v]) h = some (.bool (natNo x), h) := by
 rw [knf, kou n, Option.bind_some]
 unfold natNo
 rw [n.len]
 cases rt x
 ·rfl
 ·show some (AV.bool (decide ((x.length : Int) > 4)), h) = _
  congr 3
  rw [Bool.not_true, Bool.false_or, decide_eq_decide]
  omega
theorem kq0 {s : Sl} {xs : List (List Nat)} (n : Sq Ef.nats h0 S s xs) : Runs (go (.fn F.keu [s.v, .func (.func F.kba) [] []]) h0) fun v h' => v = .bool (xs.any natNo) ∧ Grow h0 h' := by
 rw [krk]
 refine Runs.contains (xs := xs) ?_
 rw [knr, n.len]
 refine kdt (n := xs.length) (G := fun z h => go (.pt F.kde Td.kfn [(0, s.v), (1, .func (.func F.kba) [] []), (7, .int .i64 (xs.length : Int)), (8, .int .i64 z)]) h) (fun i h P hi g hT hF => ?_) (fun h g => ?_) xs.length 0 (by omega) (Grow.refl h0) (fun j hj => by omega)
 ·obtain ⟨r, s', e1, e2, n', -⟩ := (n.grow g).nats hi
  rw [List.getElem?_eq_getElem hi] at hT hF
  simp only [Option.any_some] at hT hF
  show Runs (go _ _) _
  rw [kjn]
  refine Runs.ifT (decide_eq_true (by omega)) (Runs.step e1 (Runs.step e2 ?_))
  refine Runs.step (kod n') (Runs.step (seen rfl) ?_)
  rw [ki (by have := n.short; omega)]
  exact Runs.cond (fun c => Runs.ret (hT h g c)) fun c => hF h g c
 ·rw [kjn, condF (decide_eq_false (by omega))]
theorem knd {s : Sl} {xs : List (List Nat)} (n : Sq Ef.nats h0 S s xs) (b : Bool) : Runs (go (.fn F.kgb [s.v, .bool b, .func (.func F.kba) [] []]) h0) fun v h' => v = .bool (decide (xs.length ≤ 16384) && (b || decide (xs.length = 0)) && !xs.any natNo) ∧ Grow h0 h' := by
 rw [knt, n.len]
 have W := kq0 n
 by_cases c : xs.length ≤ 16384
 ·refine Runs.ifT (decide_eq_true (by omega)) ?_
  rw [decide_eq_true c]
  cases b
  ·by_cases c2 : xs.length = 0
   ·refine Runs.ifF rfl (Runs.ifT (decide_eq_true (by omega)) (W.call fun v h' ⟨e, g⟩ => ?_))
    subst e
    exact Runs.step (seen rfl) (Runs.ret ⟨by rw [decide_eq_true c2]; rfl, g⟩)
   ·exact Runs.ifF rfl (Runs.ifF (decide_eq_false (by omega)) (Runs.ret ⟨by rw [decide_eq_false c2]; rfl, Grow.refl _⟩))
  ·refine Runs.ifT rfl (W.call fun v h' ⟨e, g⟩ => ?_)
   subst e
   exact Runs.step (seen rfl) (Runs.ret ⟨rfl, g⟩)
 ·exact Runs.ifF (decide_eq_false (by omega)) (Runs.ret ⟨by rw [decide_eq_false c]; rfl, Grow.refl _⟩)
@[reducible] def kindsL : List AV := [.int .i64 0, .bool false, .bool false, .bool false, .int .i64 2, .bool false, .bool false, .bool true, .int .i64 2, .bool false, .bool false, .bool false, .int .i64 1, .bool false, .bool false, .bool true, .int .i64 2, .bool false, .bool true, .bool false, .int .i64 2, .bool true, .bool false, .bool true, .int .i64 2, .bool true, .bool false, .bool false, .int .i64 3, .bool false, .bool true, .bool false, .int .i64 2, .bool false, .bool false, .bool false, .int .i64 3, .bool false, .bool false, .bool false, .int .i64 1, .bool false, .bool false, .bool false, .int .i64 1, .bool false, .bool false, .bool false]
theorem kk8 {h : AH} : Runs (go (.fn F.kha []) h) fun v h' => v = .agg kindsL ∧ Grow h h' := by
 rw [ko5]
 refine Runs.new fun h1 b1 g1 => Runs.puts b1 rfl fun h2 b2 u2 => ?_
 repeat refine Runs.step (AH.has.rd b2 _ rfl (by first | exact kb _ _ | rfl)) ?_
 exact Runs.ret ⟨rfl, g1.updr (Nat.le_refl _) u2⟩
variable {m : Ms} {s5 s6 s7 : Sl} {b : Nat}
theorem ko8 (n : MsAt h0 S s5 s6 s7 m) (B : h0.has b (m.cells s5 s6 s7) T.kw) (hl : m.rows.length ≤ 16384) : ∀ (k i : Nat), i + k = m.rows.length →
  Runs (go (.pt F.kz Td.kdp [(1, .ptr (some (.new b 0))), (84, .int .i64 (m.rows.length : Int)), (85, .int .i64 (i : Int))]) h0) fun v h' => (∃ z : Bool, v = .bool z ∧ (z = true ↔ ((List.range m.rows.length).drop i).all (riseOk m.rows) = true ∧ m.end')) ∧ Grow h0 h' := by
 intro k
 induction k with
 | zero =>
  intro i hi
  rw [kiy, kcm (by simp; omega)]
  refine Runs.ifF (decide_eq_false (by omega)) ?_
  repeat' first
   | refine Runs.step (AH.has.rd B _ rfl (by first | exact kb _ _ | exact asSl_v _ | rfl)) ?_
   | refine Runs.cond (fun k => ?_) (fun k => ?_)
  all_goals
   refine Runs.ret ⟨⟨_, rfl, ?_⟩, Grow.refl _⟩
   have e1 := n.nats.len
   have e2 := n.ids.len
   unfold Ms.end'
   grind
 | succ k ih =>
  intro i hi
  have hlt : i < m.rows.length := by omega
  obtain ⟨r, e1, e2⟩ := n.rows.int hlt
  rw [kiy, kda hlt]
  refine Runs.ifT (decide_eq_true (by omega)) ?_
  rw [ki (by omega)]
  by_cases c : i = 0
  ·refine Runs.ifF (decide_eq_false (by omega)) ((ih (i + 1) (by omega)).imp fun v h' ⟨⟨z, e, q⟩, g⟩ => ⟨⟨z, e, ?_⟩, g⟩)
   rw [q]
   simp [riseOk, c]
  ·refine Runs.ifT (decide_eq_true (by omega)) ?_
   have hp : i - 1 < m.rows.length := by omega
   obtain ⟨r2, e3, e4⟩ := n.rows.int hp
   have hw : IntKind.wrap .i64 ((i : Int) - 1) = ((i - 1 : Nat) : Int) := by rw [wrap64 (by omega) (by omega)]; omega
   rw [hw]
   refine Runs.step (B.rd 5 rfl (asSl_v _)) (Runs.step e1 (Runs.step e2 (Runs.step (B.rd 5 rfl (asSl_v _)) (Runs.step e3 (Runs.step e4 ?_)))))
   have hr : riseOk m.rows i = !decide (m.rows[i] ≤ m.rows[i - 1]) := by simp [riseOk, c, List.getD, hlt, hp]
   rw [hr]
   refine Runs.cond (fun c2 => Runs.ret ⟨⟨_, rfl, by simp [c2]⟩, Grow.refl _⟩) fun c2 => (ih (i + 1) (by omega)).imp fun v h' ⟨⟨z, e, q⟩, g⟩ => ⟨⟨z, e, ?_⟩, g⟩
   rw [q, c2]
   simp
theorem koe (n : MsAt h0 S s5 s6 s7 m) (B : h0.has b (m.cells s5 s6 s7) T.kw) {b2 b3 : Nat} {nu : Int} {k1 k2 k3 : Bool} (B2 : h0.has b2 [.int .i64 nu, .bool k1, .bool k2, .bool k3] T.kgh) (B3 : h0.has b3 [.int .i64 m.a, .int .i64 m.b, .int .i64 m.c] T.int) (h1 : 1 ≤ nu) :
  Runs (go (.pt F.kz Td.kb5 [(1, .ptr (some (.new b 0))), (4, .ptr (some (.new b2 0))), (43, (⟨some (.new b3 0), 3, .is 3⟩ : Sl).v), (44, .int .i64 3), (45, .int .i64 0)]) h0) fun v h' => (∃ z : Bool, v = .bool z ∧ (z = true ↔ (nu < 2 → m.b = 0) ∧ (nu < 3 → m.c = 0) ∧
   (decide (m.ids.length ≤ 16384) && (k1 || decide (m.ids.length = 0)) && !m.ids.any oddI) = true ∧ (decide (m.rows.length ≤ 16384) && (k2 || decide (m.rows.length = 0)) && !m.rows.any oddI) = true ∧
   (decide (m.nats.length ≤ 16384) && (k3 || decide (m.nats.length = 0)) && !m.nats.any natNo) = true ∧ (List.range m.rows.length).all (riseOk m.rows) = true ∧ m.end')) ∧ Grow h0 h' := by
 have i0 : idx (some (.new b3 0)) 3 0 1 = some ((Ref.new b3 0).add 0) := rfl
 have i1 : idx (some (.new b3 0)) 3 1 1 = some ((Ref.new b3 0).add 1) := rfl
 have i2 : idx (some (.new b3 0)) 3 2 1 = some ((Ref.new b3 0).add 2) := rfl
 have tail : (nu < 2 → m.b = 0) → (nu < 3 → m.c = 0) → Runs (go (.pt F.kz Td.kb5 [(1, .ptr (some (.new b 0))), (4, .ptr (some (.new b2 0))), (43, (⟨some (.new b3 0), 3, .is 3⟩ : Sl).v), (44, .int .i64 3), (45, .int .i64 3)]) h0) fun v h' => (∃ z : Bool, v = .bool z ∧ (z = true ↔ (nu < 2 → m.b = 0) ∧ (nu < 3 → m.c = 0) ∧
   (decide (m.ids.length ≤ 16384) && (k1 || decide (m.ids.length = 0)) && !m.ids.any oddI) = true ∧ (decide (m.rows.length ≤ 16384) && (k2 || decide (m.rows.length = 0)) && !m.rows.any oddI) = true ∧
   (decide (m.nats.length ≤ 16384) && (k3 || decide (m.nats.length = 0)) && !m.nats.any natNo) = true ∧ (List.range m.rows.length).all (riseOk m.rows) = true ∧ m.end')) ∧ Grow h0 h' := fun p1 p2 => by
  rw [kfw]
  refine Runs.ifF rfl (Runs.step (B.rd 4 rfl (asSl_v _)) (Runs.step (B2.rd 1 rfl rfl) ?_))
  refine (kid n.ids k1).call fun v h1 ⟨e, g1⟩ => ?_
  subst e
  refine Runs.step (seen rfl) (Runs.cond (fun c => Runs.ret ⟨⟨_, rfl, by grind⟩, g1⟩) fun c => ?_)
  refine Runs.step ((g1.has B).rd 5 rfl (asSl_v _)) (Runs.step ((g1.has B2).rd 2 rfl rfl) ?_)
  refine (kid (n.rows.grow g1) k2).call fun v h2 ⟨e, g2⟩ => ?_
  subst e
  refine Runs.step (seen rfl) (Runs.cond (fun c2 => Runs.ret ⟨⟨_, rfl, by grind⟩, g1.trans g2⟩) fun c2 => ?_)
  refine Runs.step (((g1.trans g2).has B).rd 6 rfl (asSl_v _)) (Runs.step (((g1.trans g2).has B2).rd 3 rfl rfl) ?_)
  refine (knd (n.nats.grow (g1.trans g2)) k3).call fun v h3 ⟨e, g3⟩ => ?_
  subst e
  have G := (g1.trans g2).trans g3
  refine Runs.step (seen rfl) (Runs.cond (fun c3 => Runs.ret ⟨⟨_, rfl, by grind⟩, G⟩) fun c3 => ?_)
  refine Runs.step ((G.has B).rd 5 rfl (asSl_v _)) ?_
  rw [n.rows.len]
  have hl : m.rows.length ≤ 16384 := by grind
  refine (ko8 (n.grow G) (G.has B) hl m.rows.length 0 (by omega)).imp fun v h' ⟨⟨z, e, q⟩, g⟩ => ⟨⟨z, e, ?_⟩, G.trans g⟩
  rw [q, List.drop_zero]
  grind
 rw [kfw]
 refine Runs.ifT rfl (Runs.step i0 (Runs.step (B3.rd 0 rfl (kb _ _)) (Runs.step (B2.rd 0 rfl (kb _ _)) (Runs.ifF (decide_eq_false (by omega)) ?_))))
 show Runs (go (.pt F.kz Td.kb5 [(1, .ptr (some (.new b 0))), (4, .ptr (some (.new b2 0))), (43, (⟨some (.new b3 0), 3, .is 3⟩ : Sl).v), (44, .int .i64 3), (45, .int .i64 1)]) h0) _
 rw [kfw]
 refine Runs.ifT rfl (Runs.step i1 (Runs.step (B3.rd 1 rfl (kb _ _)) (Runs.step (B2.rd 0 rfl (kb _ _)) ?_)))
 have two : (nu < 2 → m.b = 0) → Runs (go (.pt F.kz Td.kb5 [(1, .ptr (some (.new b 0))), (4, .ptr (some (.new b2 0))), (43, (⟨some (.new b3 0), 3, .is 3⟩ : Sl).v), (44, .int .i64 3), (45, .int .i64 2)]) h0) fun v h' => (∃ z : Bool, v = .bool z ∧ (z = true ↔ (nu < 2 → m.b = 0) ∧ (nu < 3 → m.c = 0) ∧
   (decide (m.ids.length ≤ 16384) && (k1 || decide (m.ids.length = 0)) && !m.ids.any oddI) = true ∧ (decide (m.rows.length ≤ 16384) && (k2 || decide (m.rows.length = 0)) && !m.rows.any oddI) = true ∧
   (decide (m.nats.length ≤ 16384) && (k3 || decide (m.nats.length = 0)) && !m.nats.any natNo) = true ∧ (List.range m.rows.length).all (riseOk m.rows) = true ∧ m.end')) ∧ Grow h0 h' := fun p1 => by
  rw [kfw]
  refine Runs.ifT rfl (Runs.step i2 (Runs.step (B3.rd 2 rfl (kb _ _)) (Runs.step (B2.rd 0 rfl (kb _ _)) ?_)))
  refine Runs.cond (fun c => Runs.cond (fun c2 => Runs.ret ⟨⟨_, rfl, by grind⟩, Grow.refl _⟩) fun c2 => ?_) fun c => ?_
  ·exact tail p1 (fun _ => by simpa using c2)
  ·exact tail p1 (fun h => by simp at c; omega)
 refine Runs.cond (fun c => Runs.cond (fun c2 => Runs.ret ⟨⟨_, rfl, by grind⟩, Grow.refl _⟩) fun c2 => ?_) fun c => ?_
 ·exact two (fun _ => by simpa using c2)
 ·exact two (fun h => by simp at c; omega)
theorem krd (n : MsAt h0 S s5 s6 s7 m) : Runs (go (.fn F.kz [.agg (m.cells s5 s6 s7)]) h0) fun v h' => (∃ z : Bool, v = .bool z ∧ (z = true ↔ m.ok)) ∧ Grow h0 h' := by
 rw [kry]
 refine Runs.new fun h8 b8 g8 => ?_
 refine kk8.call fun v h9 ⟨e, g9⟩ => ?_
 subst e
 refine Runs.step rfl (Runs.ifT rfl ?_)
 repeat refine Runs.step (seenAt rfl (by first | exact kb _ _ | rfl)) ?_
 refine Runs.new fun h59 b59 g59 => Runs.puts b59 rfl fun h60 b60 u60 => ?_
 have g60 : Grow h9 h60 := g59.updr (Nat.le_refl _) u60
 have G := (g8.trans g9).trans g60
 have B := (g9.trans g60).has b8
 refine Runs.step (B.rd 0 rfl (kb _ _)) (Runs.cond (fun c1 => Runs.ret ⟨⟨_, rfl, by unfold Ms.ok Ms.heads; grind⟩, G⟩) fun c1 => ?_)
 refine Runs.step (B.rd 0 rfl (kb _ _)) (Runs.cond (fun c2 => Runs.ret ⟨⟨_, rfl, by unfold Ms.ok Ms.heads; grind⟩, G⟩) fun c2 => ?_)
 refine Runs.step (B.rd 1 rfl (kb _ _)) (Runs.step (kfa _ _) (Runs.step (seen rfl) (Runs.cond (fun c3 => Runs.ret ⟨⟨_, rfl, by unfold Ms.ok Ms.heads; grind⟩, G⟩) fun c3 => ?_)))
 refine Runs.step (B.rd 2 rfl (kb _ _)) (Runs.step (kfa _ _) (Runs.step (seen rfl) (Runs.cond (fun c4 => Runs.ret ⟨⟨_, rfl, by unfold Ms.ok Ms.heads; grind⟩, G⟩) fun c4 => ?_)))
 refine Runs.step (B.rd 3 rfl (kb _ _)) (Runs.step (kfa _ _) (Runs.step (seen rfl) (Runs.cond (fun c5 => Runs.ret ⟨⟨_, rfl, by unfold Ms.ok Ms.heads; grind⟩, G⟩) fun c5 => ?_)))
 refine Runs.step (B.rd 0 rfl (kb _ _)) ?_
 rw [decide_eq_false_iff_not] at c1 c2
 have key : ∀ {nu : Int} {k1 k2 k3 : Bool}, 1 ≤ nu → (nu < 2 ↔ (m.kind = 3 ∨ m.kind = 10 ∨ m.kind = 11)) → (nu < 3 ↔ ¬ (m.kind = 7 ∨ m.kind = 9)) → (k1 = true ↔ (m.kind = 5 ∨ m.kind = 6)) → (k2 = true ↔ (m.kind = 4 ∨ m.kind = 7)) → (k3 = true ↔ (m.kind = 1 ∨ m.kind = 3 ∨ m.kind = 5)) → ∀ {h1 h2 h3 : AH} {b2 b3 : Nat}, Grow h60 h3 → h3.has b2 [.int .i64 nu, .bool k1, .bool k2, .bool k3] T.kgh → h3.has b3 [.int .i64 m.a, .int .i64 m.b, .int .i64 m.c] T.int →
   Runs (go (.pt F.kz Td.kb5 [(1, .ptr (some (.new h0.blks.size 0))), (4, .ptr (some (.new b2 0))), (43, (⟨some (.new b3 0), 3, .is 3⟩ : Sl).v), (44, .int .i64 3), (45, .int .i64 0)]) h3) fun v h' => (∃ z : Bool, v = .bool z ∧ (z = true ↔ m.ok)) ∧ Grow h0 h' := fun {nu k1 k2 k3} p0 p1 p2 p3 p4 p5 {h1 h2 h3 b2 b3} g B2 B3 => by
  refine (koe (n.grow (G.trans g)) (g.has B) B2 B3 p0).imp fun v h' ⟨⟨z, e, q⟩, g'⟩ => ⟨⟨z, e, ?_⟩, (G.trans g).trans g'⟩
  rw [q]
  unfold Ms.ok Ms.heads Ms.lists
  grind
 have kn : m.kind = 1 ∨ m.kind = 2 ∨ m.kind = 3 ∨ m.kind = 4 ∨ m.kind = 5 ∨ m.kind = 6 ∨ m.kind = 7 ∨ m.kind = 8 ∨ m.kind = 9 ∨ m.kind = 10 ∨ m.kind = 11 := by omega
 rcases kn with kn | kn | kn | kn | kn | kn | kn | kn | kn | kn | kn
 all_goals
  rw [kn]
  refine Runs.step (a := Ref.new h9.blks.size _) rfl ?_
  refine Runs.step (AH.has.rdo b60 _ _ rfl (kb _ _)) (Runs.step (AH.has.rdo b60 _ _ rfl rfl) (Runs.step (AH.has.rdo b60 _ _ rfl rfl) (Runs.step (AH.has.rdo b60 _ _ rfl rfl) ?_)))
  refine Runs.new fun h78 b78 g78 => Runs.puts b78 rfl fun h79 b79 u79 => ?_
  have g79 : Grow h60 h79 := g78.updr (Nat.le_refl _) u79
  have B9 := g79.has B
  refine Runs.step (B9.rd 1 rfl (kb _ _)) (Runs.step (B9.rd 2 rfl (kb _ _)) (Runs.step (B9.rd 3 rfl (kb _ _)) ?_))
  refine Runs.new fun h83 b83 g83 => ?_
  refine key (h1 := h78) (h2 := h79) (by decide) ?_ ?_ ?_ ?_ ?_ (g79.trans g83) (g83.has b79) b83 <;> simp [kn]
end
end Go.Ab

/- squeezed -/
set_option linter.unusedVariables false
set_option linter.unusedSimpArgs false
set_option maxRecDepth 10000
namespace Go.Ab
open Go.Proofs
def numbF (k : Int) : Int := if k = 3 ∨ k = 10 ∨ k = 11 then 1 else if k = 7 ∨ k = 9 then 3 else if k = 1 ∨ k = 2 ∨ k = 4 ∨ k = 5 ∨ k = 6 ∨ k = 8 then 2 else 0
theorem knn (k : Int) (h : AH) : go (.fn F.kc5 [.int .i64 k]) h = some (.int .i64 (numbF k), h) := by
 rw [kpc]
 have : Runs (cond (decide (k = 3)) (some (.int .i64 1, h)) (cond (decide (k = 10)) (some (.int .i64 1, h)) (cond (decide (k = 11)) (some (.int .i64 1, h)) (go (.pt F.kc5 Td.kgj [(3, .int .i64 k)]) h)))) fun v h' => v = .int .i64 (numbF k) ∧ h' = h := by
  rw [km6]
  repeat' first
   | refine Runs.cond (fun k => ?_) (fun k => ?_)
  all_goals
   refine Runs.ret ⟨congrArg (AV.int .i64) ?_, rfl⟩
   unfold numbF
   grind
 obtain ⟨_, _, e, rfl, rfl⟩ := this
 exact e
section
variable {h0 : AH} {S : Fp} {m : Ms} {s5 s6 s7 : Sl} {b : Nat}
def Ms.in' (m : Ms) : Prop := m.ids.any oddI = false ∧ m.rows.any oddI = false ∧ (List.range m.rows.length).all (riseOk m.rows) = true ∧ m.nats.any natNo = false
theorem knv (n : MsAt h0 S s5 s6 s7 m) (B : h0.has b (m.cells s5 s6 s7) T.kw) (hl : m.nats.length ≤ 16384) : ∀ (k i : Nat), i + k = m.nats.length →
  go (.pt F.ke Td.kfy [(1, .ptr (some (.new b 0))), (9, .int .i64 (i : Int))]) h0 = some (.bool (!(m.nats.drop i).any natNo), h0) := by
 intro k
 induction k with
 | zero =>
  intro i hi
  rw [kh6, B.rd 6 rfl (asSl_v _), Option.bind_some, n.nats.len, condF (decide_eq_false (by omega)), List.drop_of_length_le (by omega)]
  rfl
 | succ k ih =>
  intro i hi
  have hlt : i < m.nats.length := by omega
  obtain ⟨r, s', e1, e2, n', -⟩ := n.nats.nats hlt
  rw [kh6]
  simp only [B.rd 6 rfl (asSl_v _), Option.bind_some, e1, e2, knh n', n'.len]
  rw [n.nats.len, condT (decide_eq_true (by omega)), List.drop_eq_getElem_cons hlt, List.any_cons]
  cases hr : rt m.nats[i] with
  | false => simp [natNo, hr]
  | true =>
   simp only [hr, ksa, Option.bind_some, Bool.not_true, cond_false]
   by_cases c : m.nats[i].length > 4
   ·rw [condT (decide_eq_true (by omega))]
    simp [natNo, hr, c]
   ·rw [condF (decide_eq_false (by omega)), ki (by omega), ih (i + 1) (by omega)]
    simp [natNo, hr, c]
theorem koi (n : MsAt h0 S s5 s6 s7 m) (B : h0.has b (m.cells s5 s6 s7) T.kw) (hl : m.nats.length ≤ 16384) (hl2 : m.rows.length ≤ 16384) : ∀ (k i : Nat), i + k = m.rows.length →
  go (.pt F.ke Td.kd0 [(1, .ptr (some (.new b 0))), (8, .int .i64 (i : Int))]) h0 = some (.bool (!(m.rows.drop i).any oddI && (((List.range m.rows.length).drop i).all (riseOk m.rows) && !m.nats.any natNo)), h0) := by
 intro k
 induction k with
 | zero =>
  intro i hi
  rw [kin, B.rd 5 rfl (asSl_v _), Option.bind_some, n.rows.len, condF (decide_eq_false (by omega)), List.drop_of_length_le (by omega), kcm (by simp; omega)]
  have := knv n B hl m.nats.length 0 (by omega)
  rw [List.drop_zero] at this
  exact this
 | succ k ih =>
  intro i hi
  have hlt : i < m.rows.length := by omega
  obtain ⟨r, e1, e2⟩ := n.rows.int hlt
  rw [kin, List.drop_eq_getElem_cons hlt, List.any_cons, kda hlt]
  simp only [B.rd 5 rfl (asSl_v _), Option.bind_some, e1, e2]
  rw [n.rows.len, condT (decide_eq_true (by omega))]
  by_cases c : m.rows[i] < 0
  ·rw [condT (decide_eq_true c)]
   simp [oddI, c]
  rw [condF (decide_eq_false c)]
  by_cases c2 : m.rows[i] > 1073741824
  ·rw [condT (decide_eq_true c2)]
   simp [oddI, c2]
  rw [condF (decide_eq_false c2), ki (by omega), ih (i + 1) (by omega)]
  have ho : oddI m.rows[i] = false := by simp [oddI, c, c2]
  rw [ho]
  by_cases c3 : i = 0
  ·rw [condF (decide_eq_false (by omega))]
   simp [riseOk, c3]
  ·have hp : i - 1 < m.rows.length := by omega
   obtain ⟨r2, e3, e4⟩ := n.rows.int hp
   have hw : IntKind.wrap .i64 ((i : Int) - 1) = ((i - 1 : Nat) : Int) := by rw [wrap64 (by omega) (by omega)]; omega
   rw [n.rows.len] at e3
   rw [condT (decide_eq_true (by omega)), hw]
   simp only [e3, e4, Option.bind_some]
   have hr : riseOk m.rows i = !decide (m.rows[i] ≤ m.rows[i - 1]) := by simp [riseOk, c3, List.getD, hlt, hp]
   rw [hr]
   cases decide (m.rows[i] ≤ m.rows[i - 1]) <;> simp
theorem kqo (n : MsAt h0 S s5 s6 s7 m) (B : h0.has b (m.cells s5 s6 s7) T.kw) (hl : m.nats.length ≤ 16384) (hl2 : m.rows.length ≤ 16384) (hl3 : m.ids.length ≤ 16384) : ∀ (k i : Nat), i + k = m.ids.length →
  go (.pt F.ke Td.kbq [(1, .ptr (some (.new b 0))), (7, .int .i64 (i : Int))]) h0 = some (.bool (!(m.ids.drop i).any oddI && (!m.rows.any oddI && ((List.range m.rows.length).all (riseOk m.rows) && !m.nats.any natNo))), h0) := by
 intro k
 induction k with
 | zero =>
  intro i hi
  rw [kio, B.rd 4 rfl (asSl_v _), Option.bind_some, n.ids.len, condF (decide_eq_false (by omega)), List.drop_of_length_le (by omega)]
  have := koi n B hl hl2 m.rows.length 0 (by omega)
  simp only [List.drop_zero] at this
  exact this
 | succ k ih =>
  intro i hi
  have hlt : i < m.ids.length := by omega
  obtain ⟨r, e1, e2⟩ := n.ids.int hlt
  rw [kio, List.drop_eq_getElem_cons hlt, List.any_cons]
  simp only [B.rd 4 rfl (asSl_v _), Option.bind_some, e1, e2]
  rw [n.ids.len, condT (decide_eq_true (by omega))]
  by_cases c : m.ids[i] < 0
  ·rw [condT (decide_eq_true c)]
   simp [oddI, c]
  rw [condF (decide_eq_false c)]
  by_cases c2 : m.ids[i] > 1073741824
  ·rw [condT (decide_eq_true c2)]
   simp [oddI, c2]
  rw [condF (decide_eq_false c2), ki (by omega), ih (i + 1) (by omega)]
  have ho : oddI m.ids[i] = false := by simp [oddI, c, c2]
  rw [ho]
  simp
def Says (h : AH) (p : Prop) (v : AV) (h' : AH) : Prop := (∃ z : Bool, v = .bool z ∧ (z = true ↔ p)) ∧ h' = h
theorem kqb (n : MsAt h0 S s5 s6 s7 m) (B : h0.has b (m.cells s5 s6 s7) T.kw) (hl : m.nats.length ≤ 16384) (hl2 : m.rows.length ≤ 16384) (hl3 : m.ids.length ≤ 16384) :
  Runs (go (.pt F.ke Td.kgi [(1, .ptr (some (.new b 0)))]) h0) (Says h0 ((m.kind = 1 → m.nats.length = 1) ∧ (m.kind = 5 → m.nats.length = m.ids.length) ∧ (m.kind = 6 → m.ids.length ≠ 0) ∧ m.in')) := by
 have last : ∀ {p : Prop}, (m.in' ↔ p) → Runs (go (.pt F.ke Td.kbq [(1, .ptr (some (.new b 0))), (7, .int .i64 0)]) h0) (Says h0 p) := fun {p} e => by
  refine ⟨_, _, kqo n B hl hl2 hl3 m.ids.length 0 (by omega), ⟨_, rfl, ?_⟩, rfl⟩
  rw [← e]
  unfold Ms.in'
  simp only [List.drop_zero]
  grind
 have l1 := n.nats.len
 have l2 := n.ids.len
 rw [kps]
 repeat' first
  | refine Runs.step (AH.has.rd B _ rfl (by first | exact kb _ _ | exact asSl_v _ | rfl)) ?_
  | refine Runs.cond (fun k => ?_) (fun k => ?_)
  | exact Runs.ret ⟨⟨_, rfl, by grind⟩, rfl⟩
  | (refine last ?_; grind)
theorem kng (n : MsAt h0 S s5 s6 s7 m) (B : h0.has b (m.cells s5 s6 s7) T.kw) :
  Runs (go (.pt F.ke Td.kbw [(1, .ptr (some (.new b 0)))]) h0) (Says h0 ((m.ids.length ≤ 16384 ∧ m.rows.length ≤ 16384 ∧ m.nats.length ≤ 16384) ∧ (m.kind = 1 → m.nats.length = 1) ∧ (m.kind = 5 → m.nats.length = m.ids.length) ∧ (m.kind = 6 → m.ids.length ≠ 0) ∧ m.in')) := by
 have l1 := n.nats.len
 have l2 := n.ids.len
 have l3 := n.rows.len
 rw [krq]
 repeat' first
  | refine Runs.step (AH.has.rd B _ rfl (by first | exact kb _ _ | exact asSl_v _ | rfl)) ?_
  | refine Runs.cond (fun k => ?_) (fun k => ?_)
  | exact Runs.ret ⟨⟨_, rfl, by grind⟩, rfl⟩
 exact (kqb n B (by grind) (by grind) (by grind)).imp fun v h' ⟨⟨z, e, q⟩, g⟩ => ⟨⟨z, e, by rw [q]; grind⟩, g⟩
theorem knc (n : MsAt h0 S s5 s6 s7 m) (B : h0.has b (m.cells s5 s6 s7) T.kw) {p : Prop}
  (hp : ((m.kind = 5 ∨ m.kind = 6 ∨ m.ids.length = 0) ∧ (m.kind = 4 ∨ m.kind = 7 ∨ m.rows.length = 0) ∧ (m.kind = 1 ∨ m.kind = 3 ∨ m.kind = 5 ∨ m.nats.length = 0) ∧ (m.ids.length ≤ 16384 ∧ m.rows.length ≤ 16384 ∧ m.nats.length ≤ 16384) ∧ (m.kind = 1 → m.nats.length = 1) ∧ (m.kind = 5 → m.nats.length = m.ids.length) ∧ (m.kind = 6 → m.ids.length ≠ 0) ∧ m.in') ↔ p) :
  Runs (go (.pt F.ke Td.kby [(1, .ptr (some (.new b 0)))]) h0) (Says h0 p) := by
 have l1 := n.nats.len
 have l2 := n.ids.len
 have l3 := n.rows.len
 have nine : ∀ {x y z : Bool}, (x = true ↔ (m.kind = 5 ∨ m.kind = 6)) → (y = true ↔ (m.kind = 4 ∨ m.kind = 7)) → (z = true ↔ (m.kind = 1 ∨ m.kind = 3 ∨ m.kind = 5)) →
   Runs (go (.pt F.ke Td.keb [(1, .ptr (some (.new b 0))), (4, .bool x), (5, .bool y), (6, .bool z)]) h0) (Says h0 p) := fun {x y z} p1 p2 p3 => by
  have last : Runs (go (.pt F.ke Td.kbw [(1, .ptr (some (.new b 0)))]) h0) (Says h0 ((m.ids.length ≤ 16384 ∧ m.rows.length ≤ 16384 ∧ m.nats.length ≤ 16384) ∧ (m.kind = 1 → m.nats.length = 1) ∧ (m.kind = 5 → m.nats.length = m.ids.length) ∧ (m.kind = 6 → m.ids.length ≠ 0) ∧ m.in')) := kng n B
  rw [kl5]
  repeat' first
   | refine Runs.step (AH.has.rd B _ rfl (by first | exact kb _ _ | exact asSl_v _ | rfl)) ?_
   | refine Runs.cond (fun k => ?_) (fun k => ?_)
   | exact Runs.ret ⟨⟨_, rfl, by grind⟩, rfl⟩
   | exact last.imp fun v h' ⟨⟨z, e, q⟩, g⟩ => ⟨⟨z, e, by rw [q]; grind⟩, g⟩
 have eight : ∀ {x y : Bool}, (x = true ↔ (m.kind = 5 ∨ m.kind = 6)) → (y = true ↔ (m.kind = 4 ∨ m.kind = 7)) → Runs (go (.pt F.ke Td.ke8 [(1, .ptr (some (.new b 0))), (4, .bool x), (5, .bool y)]) h0) (Says h0 p) := fun {x y} p1 p2 => by
  rw [kl6]
  repeat' first
   | refine Runs.step (AH.has.rd B _ rfl (by first | exact kb _ _ | exact asSl_v _ | rfl)) ?_
   | refine Runs.cond (fun k => ?_) (fun k => ?_)
   | exact nine p1 p2 (by grind)
 have seven : ∀ {x : Bool}, (x = true ↔ (m.kind = 5 ∨ m.kind = 6)) → Runs (go (.pt F.ke Td.kek [(1, .ptr (some (.new b 0))), (4, .bool x)]) h0) (Says h0 p) := fun {x} p1 => by
  rw [kqr]
  repeat' first
   | refine Runs.step (AH.has.rd B _ rfl (by first | exact kb _ _ | exact asSl_v _ | rfl)) ?_
   | refine Runs.cond (fun k => ?_) (fun k => ?_)
   | exact eight p1 (by grind)
 rw [krv]
 repeat' first
  | refine Runs.step (AH.has.rd B _ rfl (by first | exact kb _ _ | exact asSl_v _ | rfl)) ?_
  | refine Runs.cond (fun k => ?_) (fun k => ?_)
  | exact seven (by grind)
theorem kl0 (n : MsAt h0 S s5 s6 s7 m) : Runs (go (.fn F.ke [.agg (m.cells s5 s6 s7)]) h0) fun v h' => (∃ z : Bool, v = .bool z ∧ (z = true ↔ m.ok)) ∧ Grow h0 h' := by
 rw [kon]
 refine Runs.new fun h8 B g8 => ?_
 have l1 := n.nats.len
 have l2 := n.ids.len
 have l3 := n.rows.len
 obtain ⟨R, tail, hok⟩ : ∃ R : Prop, (∀ {q : Prop}, (R ↔ q) → Runs (go (.pt F.ke Td.kby [(1, .ptr (some (.new h0.blks.size 0)))]) h8) fun v h' => (∃ z : Bool, v = .bool z ∧ (z = true ↔ q)) ∧ Grow h0 h') ∧
   (m.ok ↔ (1 ≤ m.kind ∧ m.kind ≤ 11 ∧ 0 ≤ m.a ∧ m.a ≤ 1073741824 ∧ 0 ≤ m.b ∧ m.b ≤ 1073741824 ∧ 0 ≤ m.c ∧ m.c ≤ 1073741824 ∧ (numbF m.kind < 2 → m.b = 0) ∧ (numbF m.kind < 3 → m.c = 0) ∧ (m.kind = 9 → m.c ≤ 1)) ∧ R) := by
  refine ⟨_, fun {q} e => (knc (n.grow g8) B e).imp fun v h' ⟨q, g⟩ => ⟨q, by rw [g]; exact g8⟩, ?_⟩
  have n2 : 1 ≤ m.kind → m.kind ≤ 11 → (numbF m.kind < 2 ↔ (m.kind = 3 ∨ m.kind = 10 ∨ m.kind = 11)) ∧ (numbF m.kind < 3 ↔ ¬ (m.kind = 7 ∨ m.kind = 9)) := fun h1 h2 => by
   unfold numbF
   constructor <;> (split <;> (try split) <;> (try split) <;> omega)
  have od : ∀ x : Int, oddI x = false ↔ 0 ≤ x ∧ x ≤ 1073741824 := fun x => by
   unfold oddI
   simp only [Bool.or_eq_false_iff, decide_eq_false_iff_not]
   omega
  unfold Ms.ok Ms.heads Ms.lists Ms.end' Ms.in'
  rw [od, od, od]
  clear od
  generalize m.ids.any oddI = A1
  generalize m.rows.any oddI = A2
  generalize m.nats.any natNo = A3
  generalize (List.range m.rows.length).all (riseOk m.rows) = A4
  generalize numbF m.kind = N at *
  generalize m.ids.length = L1
  generalize m.rows.length = L2
  generalize m.nats.length = L3
  constructor
  ·intro h
   grind
  ·intro h
   grind
 have ret : ∀ {z : Bool}, (z = true ↔ m.ok) → Runs (some (.bool z, h8)) fun v h' => (∃ z : Bool, v = .bool z ∧ (z = true ↔ m.ok)) ∧ Grow h0 h' := fun {z} e => Runs.ret ⟨⟨z, rfl, e⟩, g8⟩
 rw [hok] at ret
 rw [hok]
 clear hok l1 l2 l3
 generalize hN : numbF m.kind = N at ret
 repeat' first
  | refine Runs.step (AH.has.rd B _ rfl (by first | exact kb _ _ | exact asSl_v _ | rfl)) ?_
  | (refine Runs.step (knn _ _) (Runs.step (seen (kb _ _)) ?_); rw [hN])
  | refine Runs.cond (fun k => ?_) (fun k => ?_)
  | (refine ret ?_; grind)
  | (refine tail ?_; grind)
end
end Go.Ab

/- squeezed -/
set_option linter.unusedVariables false
set_option linter.unusedSimpArgs false
set_option maxRecDepth 10000
namespace Go.Ab
open Go.Proofs
theorem kcl {A : Type} {f : AV → Option A} {h h' : AH} {r : Ref} {k : Nat} {x : A} (e : (h.cell (r.add k)).bind f = some x) (g : Grow h h') (o n : Nat) : SameAt h h' (r.add o) n := by
 obtain ⟨v, e1, _⟩ := Option.bind_eq_some_iff.1 e
 have hi := AH.cell_inn e1
 have inn : ∀ a, (r.add a).inn h := fun a => by
  cases r with
  | old _ => trivial
  | new i p => exact hi
 refine ⟨fun j _ => ?_, ?_⟩
 ·rw [Ref.add_add]
  exact g.cell (inn _)
 ·cases r with
  | old _ => exact fun _ => True.intro
  | new i p => exact fun _ => g.blk i hi
structure Wk where
 m : List (List Nd)
 t : Tb
 row : Nat
 tree : Nat
 node : Nat
 sc : List Int
def Wk.nd (w : Wk) : Nd := (w.m.getD w.tree []).getD w.node Nd.no
def Wk.bin (w : Wk) : Int := (w.t.cols.getD w.nd.feature.toNat []).getD w.row 0
def Wk.kid (w : Wk) (b : Bool) : Int := if b then w.nd.left else w.nd.right
def Wk.step (w : Wk) : Option Wk :=
 if w.t.ids.length ≤ w.row then none
 else if w.m.length ≤ w.tree then some { w with row := w.row + 1, tree := 0, node := 0 }
 else if w.nd.leaf then some { w with tree := w.tree + 1, node := 0, sc := w.sc.set w.row (IntKind.wrap .i64 (w.sc.getD w.row 0 + w.nd.weight)) }
 else if w.nd.party ≠ 0 then none
 else some { w with node := (w.kid (decide (w.bin ≤ w.nd.cut))).toNat }
def Wk.on : Nat → Wk → Wk
 | 0, w => w
 | f + 1, w => match w.step with
  | none => w
  | some w' => Wk.on f w'
def Wk.mu (w : Wk) : Nat := (w.t.ids.length - w.row) * 1089 - (w.tree * 64 + w.node)
structure Wk.Ok (w : Wk) : Prop where
 m : modR w.m = true
 t : tabR w.t = true
 own : ∀ l ∈ w.m, ∀ x ∈ l, x.leaf = false → x.party = 0 → x.feature < (w.t.cols.length : Int)
 sc : w.sc.length = w.t.ids.length
 row : w.row ≤ w.t.ids.length
 tree : w.tree ≤ w.m.length
 node : w.tree < w.m.length → w.node < (w.m.getD w.tree []).length
 end' : w.tree = w.m.length → w.node = 0
 over : w.row = w.t.ids.length → w.tree = 0 ∧ w.node = 0
theorem kd8 {m : List (List Nd)} (h : modR m = true) : m.length ≤ 16 := by
 unfold modR at h
 simp at h
 omega
theorem kdi {m : List (List Nd)} (h : modR m = true) {k : Nat} (hk : k < m.length) : 1 ≤ m[k].length ∧ m[k].length ≤ 63 ∧ ∀ (i : Nat) (hi : i < m[k].length), (m[k][i]).may (i : Int) (m[k].length : Int) := by
 unfold modR at h
 simp only [Bool.and_eq_true, List.all_eq_true] at h
 have h2 := h.2 m[k] (List.getElem_mem hk)
 unfold treeR at h2
 simp only [Bool.and_eq_true, Bool.not_eq_true', decide_eq_false_iff_not, List.all_eq_true] at h2
 refine ⟨by omega, by omega, fun i hi => ?_⟩
 have := h2.2 i (by simpa using hi)
 simpa [nodesR, List.getD, hi] using this
theorem kd3 {t : Tb} (h : tabR t = true) : t.ids.length ≤ 256 := by
 unfold tabR idsR at h
 simp at h
 exact h.1.1.1.1
theorem kpf {t : Tb} (h : tabR t = true) {k : Nat} (hk : k < t.cols.length) : t.cols[k].length = t.ids.length := by
 unfold tabR at h
 simp only [Bool.and_eq_true, List.all_eq_true] at h
 have := h.2 k (by simpa using hk)
 unfold colR at this
 simp only [Bool.and_eq_true, decide_eq_true_eq] at this
 have h3 := this.1.2
 simpa [List.getD, hk] using h3
section
variable {w : Wk}
theorem Wk.Ok.at (o : Wk.Ok w) (h : w.row < w.t.ids.length) (h2 : w.tree < w.m.length) : ∃ h3 : w.node < w.m[w.tree].length, w.nd = w.m[w.tree][w.node] ∧ w.nd.may (w.node : Int) (w.m[w.tree].length : Int) ∧ w.m[w.tree].length ≤ 63 := by
 have hn := o.node h2
 have e : w.m.getD w.tree [] = w.m[w.tree] := by simp [List.getD, h2]
 rw [e] at hn
 have e2 : w.nd = w.m[w.tree][w.node] := by
  show (w.m.getD w.tree []).getD w.node Nd.no = _
  rw [e, List.getD, List.getElem?_eq_getElem hn]
  rfl
 obtain ⟨h4, h5, h6⟩ := kdi o.m h2
 exact ⟨hn, e2, by rw [e2]; exact h6 _ hn, h5⟩
theorem Wk.Ok.kid (o : Wk.Ok w) (h : w.row < w.t.ids.length) (h2 : w.tree < w.m.length) (hl : w.nd.leaf = false) (b : Bool) : ∃ z : Nat, w.kid b = (z : Int) ∧ w.node < z ∧ z < w.m[w.tree].length ∧ z ≤ 63 ∧ Wk.Ok { w with node := z } := by
 obtain ⟨h3, e, hm, h63⟩ := o.at h h2
 unfold Nd.may at hm
 rw [hl, if_neg (by simp)] at hm
 have key : (w.node : Int) < w.kid b ∧ w.kid b < (w.m[w.tree].length : Int) := by
  unfold Wk.kid
  cases b
  ·simp; omega
  ·simp; omega
 refine ⟨(w.kid b).toNat, by omega, by omega, by omega, by omega, ⟨o.m, o.t, o.own, o.sc, o.row, o.tree, fun _ => ?_, fun h => by dsimp only at h; omega, fun h => by dsimp only at h; omega⟩⟩
 dsimp only
 simp [List.getD, h2]
 omega
theorem Wk.Ok.feature (o : Wk.Ok w) (h : w.row < w.t.ids.length) (h2 : w.tree < w.m.length) (hl : w.nd.leaf = false) (hp : w.nd.party = 0) : ∃ f : Nat, w.nd.feature = (f : Int) ∧ ∃ hf : f < w.t.cols.length, w.row < w.t.cols[f].length ∧ w.bin = w.t.cols[f].getD w.row 0 := by
 obtain ⟨h3, e, hm, h63⟩ := o.at h h2
 have hm2 := hm
 unfold Nd.may at hm2
 rw [hl, if_neg (by simp)] at hm2
 have h4 := o.own _ (List.getElem_mem h2) _ (List.getElem_mem h3) (by rw [← e]; exact hl) (by rw [← e]; exact hp)
 rw [← e] at h4
 refine ⟨w.nd.feature.toNat, by omega, by omega, ?_, ?_⟩
 ·rw [kpf o.t (by omega)]; exact h
 ·have hf : w.nd.feature.toNat < w.t.cols.length := by omega
  have : w.t.cols.getD w.nd.feature.toNat [] = w.t.cols[w.nd.feature.toNat] := by rw [List.getD, List.getElem?_eq_getElem hf]; rfl
  unfold Wk.bin
  rw [this]
theorem Wk.Ok.step (o : Wk.Ok w) {w' : Wk} (e : w.step = some w') : Wk.Ok w' ∧ w'.mu < w.mu ∧ w'.m = w.m ∧ w'.t = w.t := by
 unfold Wk.step at e
 split at e
 ·cases e
 rename_i h
 have h16 := kd8 o.m
 have htr := o.tree
 split at e
 ·cases e
  rename_i h2
  have := o.end' (by omega)
  refine ⟨⟨o.m, o.t, o.own, o.sc, by dsimp only; omega, Nat.zero_le _, fun h => ?_, fun _ => rfl, fun _ => ⟨rfl, rfl⟩⟩, ?_, rfl, rfl⟩
  ·dsimp only at h ⊢
   have := (kdi o.m h).1
   simp [List.getD, h]
   omega
  ·unfold mu
   dsimp only
   omega
 rename_i h2
 obtain ⟨h3, e3, hm, h63⟩ := o.at (by omega) (by omega)
 split at e
 ·cases e
  refine ⟨⟨o.m, o.t, o.own, by rw [List.length_set]; exact o.sc, o.row, by dsimp only; omega, fun h => ?_, fun _ => rfl, fun h => by dsimp only at h; omega⟩, ?_, rfl, rfl⟩
  ·dsimp only at h ⊢
   have := (kdi o.m h).1
   simp [List.getD, h]
   omega
  ·unfold mu
   dsimp only
   omega
 rename_i h4
 split at e
 ·cases e
 rename_i h5
 cases e
 obtain ⟨z, e5, h6, h7, h8, o'⟩ := o.kid (by omega) (by omega) (by simpa using h4) (decide (w.bin ≤ w.nd.cut))
 rw [e5, Int.toNat_natCast]
 refine ⟨o', ?_, rfl, rfl⟩
 unfold mu
 dsimp only
 omega
theorem Wk.Ok.on : ∀ (f : Nat) {w : Wk}, Wk.Ok w → w.mu ≤ f → Wk.Ok (w.on f) ∧ (w.on f).step = none ∧ (w.on f).m = w.m ∧ (w.on f).t = w.t
 | 0, w, o, h => by
  refine ⟨o, ?_, rfl, rfl⟩
  cases e : w.step with
  | none => exact e
  | some w' =>
   have := (o.step e).2.1
   omega
 | f + 1, w, o, h => by
  show Wk.Ok (match w.step with | none => w | some w' => Wk.on f w') ∧ _
  cases e : w.step with
  | none =>
   have : w.on (f + 1) = w := by simp only [Wk.on, e]
   rw [this]
   exact ⟨o, e, rfl, rfl⟩
  | some w' =>
   have : w.on (f + 1) = w'.on f := by simp only [Wk.on, e]
   rw [this]
   obtain ⟨o', lt, e1, e2⟩ := o.step e
   obtain ⟨a, b, c, d⟩ := Wk.Ok.on f o' (by omega)
   exact ⟨a, b, c.trans e1, d.trans e2⟩
theorem Wk.Ok.stop (o : Wk.Ok w) (e : w.step = none) : w.row = w.t.ids.length ∨ w.row < w.t.ids.length ∧ w.tree < w.m.length ∧ w.nd.leaf = false ∧ w.nd.party ≠ 0 := by
 unfold Wk.step at e
 have := o.row
 have := o.tree
 grind
end
end Go.Ab

/- squeezed -/
set_option linter.unusedVariables false
set_option linter.unusedSimpArgs false
set_option maxRecDepth 10000
namespace Go.Ab
open Go.Proofs
theorem AH.has.rn {A : Type} {f : AV → Option A} {h : AH} {i : Nat} {cs : List AV} {e : TypeId} (b : h.has i cs e) (k : Nat) {v : AV} {x : A} (hk : cs[k]? = some v) (hf : f v = some x) : (h.cell (.new i k)).bind f = some x := by
 rw [b.cell, hk]
 exact hf
theorem Grow.same0 {h h' : AH} (g : Grow h h') {i : Nat} {cs : List AV} {e : TypeId} (b : h.has i cs e) (o n : Nat) : SameAt h h' (.new i o) n := g.same b o n
@[reducible] def Wk.cells (w : Wk) (s0 s1 s2 s3 s7 : Sl) : List AV := [s0.v, s1.v, s2.v, s3.v, .int .i64 (w.row : Int), .int .i64 (w.tree : Int), .int .i64 (w.node : Int), s7.v]
def WalkAt (ty : TypeId) (h : AH) (S : Fp) (i j : Nat) (w : Wk) : Prop := ∃ s0 s1 s2 s3 s7 : Sl, h.has i (w.cells s0 s1 s2 s3 s7) ty ∧ Sq EM h S s0 w.m ∧ TabAt h S s1 s2 s3 w.t ∧ GF EI T.int h Fp.no s7 (some j) w.sc ∧ ¬ S i ∧ ¬ S j ∧ i ≠ j
section
variable {ty : TypeId} {h h' : AH} {S U : Fp} {i j : Nat} {w : Wk}
theorem WalkAt.md (n : WalkAt ty h S i j w) (m : Md U h h') (d : Dis S U) (d1 : ¬ U i) (d2 : ¬ U j) : WalkAt ty h' S i j w := by
 obtain ⟨s0, s1, s2, s3, s7, b, n0, n1, v, e1, e2, e3⟩ := n
 exact ⟨s0, s1, s2, s3, s7, m.has b d1, n0.md m d, n1.md m d, GF.md m (Dis.no.symm) v fun k e => by cases e; exact d2, e1, e2, e3⟩
theorem WalkAt.grow (n : WalkAt ty h S i j w) (g : Grow h h') : WalkAt ty h' S i j w := n.md (g.md Fp.no) Dis.no Fp.not_no Fp.not_no
theorem khc (n : WalkAt T.kx h S i j w) : Runs (go (.fn F.kdo [.ptr (some (.new i 0))]) h) fun v h' => v = .agg [.int .i64 (w.sc.length : Int), .int .i64 0, .int .i64 0] ∧ Grow h h' := by
 obtain ⟨s0, s1, s2, s3, s7, b, n0, n1, v, -⟩ := n
 rw [knx]
 refine Runs.new fun h2 b2 g2 => Runs.step rfl (Runs.step ((g2.has b).rn 7 rfl (asSl_v _)) (Runs.puts b2 rfl fun h5 b5 u5 => ?_))
 refine Runs.step (b5.rd 0 rfl (kb _ _)) (Runs.step (b5.rd 1 rfl (kb _ _)) (Runs.step (b5.rd 2 rfl (kb _ _)) (Runs.ret ⟨?_, g2.updr (Nat.le_refl _) u5⟩)))
 rw [v.len]
theorem ke4 (n : WalkAt T.kx h S i j w) (o : w.Ok) (hr : w.row < w.t.ids.length) (ht : w.tree < w.m.length) : Runs (go (.fn F.kd6 [.ptr (some (.new i 0))]) h) fun v h' => v = .agg w.nd.cells ∧ Grow h h' := by
 obtain ⟨h3, e3, -, -⟩ := o.at hr ht
 obtain ⟨s0, s1, s2, s3, s7, b, n0, n1, v, -⟩ := n
 rw [klf]
 refine Runs.new fun h2 b2 g2 => ?_
 have b' := g2.has b
 obtain ⟨r, s', e4, -, e5, n'⟩ := (n0.grow g2).sl ht
 obtain ⟨r2, e6, f0, f1, f2, f3, f4, f5, f6⟩ := n'.nd h3
 refine Runs.step rfl (Runs.step (b'.rn 0 rfl (asSl_v _)) (Runs.step rfl (Runs.step (a := Ref.new i 5) rfl (Runs.step (b'.rn 5 rfl (kb _ _)) (Runs.step e4 (Runs.step e5 ?_))))))
 refine Runs.step rfl (Runs.step (a := Ref.new i 6) rfl (Runs.step (b'.rn 6 rfl (kb _ _)) (Runs.step e6 ?_)))
 refine Runs.step f0 (Runs.step f1 (Runs.step f2 (Runs.step f3 (Runs.step f4 (Runs.step f5 (Runs.step f6 ?_))))))
 refine Runs.puts b2 rfl fun h5 b5 u5 => ?_
 repeat refine Runs.step (AH.has.rd b5 _ rfl (by first | exact kb _ _ | rfl)) ?_
 exact Runs.ret ⟨by rw [e3]; rfl, g2.updr (Nat.le_refl _) u5⟩
theorem kjy (x : Nd) (b : Bool) : Runs (go (.fn F.kdm [.agg x.cells, .bool b]) h) fun v h' => v = .int .i64 (if b then x.left else x.right) ∧ Grow h h' := by
 show Runs (go (.fn F.kdm [.agg [.bool x.leaf, .int .i64 x.weight, .int .i64 x.party, .int .i64 x.feature, .int .i64 x.cut, .int .i64 x.left, .int .i64 x.right], .bool b]) h) _
 rw [kog]
 refine Runs.new fun h2 b2 g2 => ?_
 cases b
 ·exact Runs.ifF rfl (Runs.step (b2.rd 6 rfl (kb _ _)) (Runs.ret ⟨rfl, g2⟩))
 ·exact Runs.ifT rfl (Runs.step (b2.rd 5 rfl (kb _ _)) (Runs.ret ⟨rfl, g2⟩))
end
def Fp.two (i j : Nat) : Fp := fun k => k = i ∨ k = j
theorem kjf {S : Fp} {i j : Nat} : ∀ (f : Nat) {w : Wk} {h : AH}, WalkAt T.kx h S i j w → w.Ok → w.mu ≤ f →
  Runs (go (.pt F.kb4 Td.kcr [(0, .ptr (some (.new i 0)))]) h) fun v h' => v = .tup [] ∧ WalkAt T.kx h' S i j (w.on f) ∧ Md (Fp.two i j) h h' := by
 intro f
 induction f with
 | zero => ?_
 | succ f ih => ?_
 all_goals
  intro w h n o hf
  have n' := n
  obtain ⟨s0, s1, s2, s3, s7, b, n0, n1, v, d1, d2, d3⟩ := n'
  rw [kl8]
  refine Runs.step rfl (Runs.step (b.rn _ rfl (kb _ _)) (Runs.step (b.rn _ rfl (kb _ _)) (Runs.step (b.rn _ rfl (kb _ _)) ?_)))
  refine (khc n).call fun _ h1 ⟨e, g1⟩ => ?_
  subst e
  refine Runs.step rfl (Runs.ifT rfl (Runs.step (seenAt rfl (kb _ _)) (Runs.step (seenAt rfl (kb _ _)) (Runs.step (seenAt rfl (kb _ _)) (Runs.when (g1.same0 b _ 3) ?_)))))
  have b1 := g1.has b
  have hrow := o.row
  have hend := o.over
  have hsc := o.sc
  have h16 := kd8 o.m
  have h256 := kd3 o.t
  refine Runs.cond (fun c => ?_) (fun c => ?_)
  rotate_left
  ·
   have hs : w.step = none := by
    unfold Wk.step
    rw [if_pos]
    simp at c
    omega
   refine Runs.ret ⟨rfl, ?_, g1.md _⟩
   have : ∀ f, w.on f = w := fun f => by cases f <;> simp [Wk.on, hs]
   rw [this]
   exact n.grow g1
  have hr : w.row < w.t.ids.length := by
   simp at c
   omega
  refine Runs.step rfl (Runs.step (a := Ref.new i 5) rfl (Runs.step (b1.rn 5 rfl (kb _ _)) (Runs.step rfl (Runs.step (b1.rn 0 rfl (asSl_v _)) ?_))))
  rw [n0.len]
  have ht := o.tree
 ·
  have hs : w.step = none := by
   cases e : w.step with
   | none => rfl
   | some w' => have := (o.step e).2.1; omega
  have hst := o.stop hs
  obtain ⟨_, h2, h3, h4⟩ := hst.resolve_left (by omega)
  refine Runs.ifF (decide_eq_false (by omega)) ?_
  refine (ke4 (n.grow g1) o hr h2).call fun _ h5 ⟨e, g5⟩ => ?_
  subst e
  refine Runs.step rfl (Runs.ifT rfl ?_)
  repeat refine Runs.step (seenAt rfl (by first | exact kb _ _ | rfl)) ?_
  refine Runs.new fun h6 b6 g6 => Runs.puts b6 rfl fun h7 b7 u7 => ?_
  have g7 : Grow h5 h7 := g6.updr (Nat.le_refl _) u7
  refine Runs.step (b7.rd 0 rfl rfl) (Runs.ifF h3 (Runs.step (b7.rd 2 rfl (kb _ _)) (Runs.ifT (by simpa using h4) (Runs.ret ⟨rfl, n.grow (g1.trans (g5.trans g7)), (g1.trans (g5.trans g7)).md _⟩))))
 ·have fin : ∀ {w' : Wk} {h' : AH}, w.step = some w' → WalkAt T.kx h' S i j w' → Md (Fp.two i j) h h' → Runs (go (.pt F.kb4 Td.kcr [(0, .ptr (some (.new i 0)))]) h') fun v h'' => v = .tup [] ∧ WalkAt T.kx h'' S i j (w.on (f + 1)) ∧ Md (Fp.two i j) h h'' := fun {w' h'} e n' m => by
   obtain ⟨o', lt, -, -⟩ := o.step e
   have : w.on (f + 1) = w'.on f := by simp only [Wk.on, e]
   rw [this]
   exact (ih n' o' (by omega)).imp fun v h'' ⟨a, b, c⟩ => ⟨a, b, m.trans c⟩
  refine Runs.cond (fun c2 => ?_) (fun c2 => ?_)
  ·rw [decide_eq_true_eq] at c2
   refine Runs.step rfl (Runs.step (a := Ref.new i 4) rfl (Runs.step (b1.rn 4 rfl (kb _ _)) (Runs.step rfl ?_)))
   refine Runs.putAt b1 (cs' := Wk.cells { w with row := w.row + 1, tree := 0, node := 0 } s0 s1 s2 s3 s7) (by simp) (by rw [ki (by omega)]; rfl) fun h3 b3 u3 => ?_
   have m3 : Md (Fp.two i j) h h3 := g1.thenM (u3.md (.inl rfl))
   have hd : Dis S (Fp.two i j) := fun k a b => by rcases b with rfl | rfl; exact d1 a; exact d2 a
   refine fin (w' := { w with row := w.row + 1, tree := 0, node := 0 }) (by unfold Wk.step; rw [if_neg (by omega), if_pos (by omega)]) ⟨s0, s1, s2, s3, s7, b3, n0.md m3 hd, n1.md m3 hd, GF.updo (v.grow g1) (i := some i) Fp.not_no (fun e => d3 e.symm) u3, d1, d2, d3⟩ m3
  ·rw [decide_eq_false_iff_not] at c2
   have h2 : w.tree < w.m.length := by omega
   obtain ⟨hx, ex, hmay, h63⟩ := o.at hr h2
   refine (ke4 (n.grow g1) o hr h2).call fun _ h5 ⟨e, g5⟩ => ?_
   subst e
   refine Runs.step rfl (Runs.ifT rfl ?_)
   repeat refine Runs.step (seenAt rfl (by first | exact kb _ _ | rfl)) ?_
   refine Runs.new fun h6 b6 g6 => Runs.puts b6 rfl fun h7 b7 u7 => ?_
   have g7 : Grow h h7 := g1.trans (g5.trans (g6.updr (Nat.le_refl _) u7))
   have B := g7.has b
   have hd : Dis S (Fp.two i j) := fun k a b => by rcases b with rfl | rfl; exact d1 a; exact d2 a
   refine Runs.step (b7.rd 0 rfl rfl) (Runs.cond (fun c3 => ?_) (fun c3 => ?_))
   ·
    have hrs : w.row < w.sc.length := by omega
    have v7 := v.grow g7
    obtain ⟨r, e1, e2⟩ := v7.sq.int hrs
    obtain ⟨r', h9, e3, e4, v9, u9⟩ := v7.set (T := Fp.no) (cs := [.int .i64 (IntKind.wrap .i64 (w.sc[w.row] + w.nd.weight))]) (x := IntKind.wrap .i64 (w.sc[w.row] + w.nd.weight)) rfl NotO.no (kkl hrs)
    rw [← v.len] at e3
    have e3 : idx s7.ref s7.len (w.row : Int) 1 = some r' := e3
    refine Runs.step rfl (Runs.step (B.rn 7 rfl (asSl_v _)) (Runs.step rfl (Runs.step (a := Ref.new i 4) rfl (Runs.step (B.rn 4 rfl (kb _ _)) (Runs.step e1 (Runs.step e2 (Runs.step (b7.rd 1 rfl (kb _ _)) (Runs.step e3 (Runs.step e4 ?_)))))))))
    have B9 := AH.has.updr B d3 u9
    refine Runs.step rfl (Runs.step (a := Ref.new i 4) rfl (Runs.step (B9.rn 4 rfl (kb _ _)) (Runs.step rfl (Runs.step (a := Ref.new i 5) rfl (Runs.step (B9.rn 5 rfl (kb _ _)) (Runs.step rfl ?_))))))
    refine Runs.putAt B9 (cs' := Wk.cells { w with tree := w.tree + 1, node := 0, sc := w.sc.set w.row (IntKind.wrap .i64 (w.sc.getD w.row 0 + w.nd.weight)) } s0 s1 s2 s3 s7) (by simp) (by rw [ki (by omega)]; rfl) fun h10 b10 u10 => ?_
    have m9 : Md (Fp.two i j) h h9 := g7.thenM (Upd.md u9 (.inr rfl))
    have m10 : Md (Fp.two i j) h h10 := m9.trans (u10.md (.inl rfl))
    have hg : w.sc.getD w.row 0 = w.sc[w.row] := by simp [List.getD, hrs]
    refine fin (w' := { w with tree := w.tree + 1, node := 0, sc := w.sc.set w.row (IntKind.wrap .i64 (w.sc.getD w.row 0 + w.nd.weight)) }) (by unfold Wk.step; rw [if_neg (by omega), if_neg (by omega), if_pos c3]) ⟨s0, s1, s2, s3, s7, b10, n0.md m10 hd, n1.md m10 hd, ?_, d1, d2, d3⟩ m10
    rw [hg]
    exact GF.updo (GF.mono v9 (fun k x => x.elim id id) (i := some j) Fp.not_no) (i := some i) Fp.not_no (fun e => d3 e.symm) u10
   ·refine Runs.step (b7.rd 2 rfl (kb _ _)) (Runs.cond (fun c4 => ?_) (fun c4 => ?_))
    ·
     have hs : w.step = none := by
      unfold Wk.step
      rw [if_neg (by omega), if_neg (by omega), if_neg (by rw [c3]; simp), if_pos (by simpa using c4)]
     have : w.on (f + 1) = w := by simp only [Wk.on, hs]
     rw [this]
     exact Runs.ret ⟨rfl, n.grow g7, g7.md _⟩
    ·have hp : w.nd.party = 0 := by simpa using c4
     obtain ⟨z, e5, h8, h9, h10, h11⟩ := o.kid hr h2 c3 (decide (w.bin ≤ w.nd.cut))
     obtain ⟨fe, e6, hf, h12, hbin⟩ := o.feature hr h2 c3 hp
     obtain ⟨r1, s', k1, k2, -, k3⟩ := (n1.cols.grow g7).sl hf
     obtain ⟨r2, k4, k5⟩ := k3.int h12
     repeat refine Runs.step (AH.has.rd b7 _ rfl (by first | exact kb _ _ | rfl)) ?_
     refine Runs.step rfl (Runs.step (B.rn _ rfl (asSl_v _)) (Runs.step (b7.rd 3 rfl (kb _ _)) ?_))
     rw [e6]
     refine Runs.step k1 (Runs.step k2 (Runs.step rfl (Runs.step (a := Ref.new i 4) rfl (Runs.step (B.rn 4 rfl (kb _ _)) (Runs.step k4 (Runs.step k5 (Runs.step (b7.rd 4 rfl (kb _ _)) (Runs.step rfl ?_))))))))
     have hbb : w.bin = w.t.cols[fe][w.row] := by rw [hbin]; simp [List.getD, h12]
     rw [← hbb, ← e6]
     refine (kjy w.nd (decide (w.bin ≤ w.nd.cut))).call fun _ h13 ⟨e, g13⟩ => ?_
     subst e
     have hk : (if decide (w.bin ≤ w.nd.cut) = true then w.nd.left else w.nd.right) = (z : Int) := e5
     rw [hk]
     refine Runs.step (seen (kb _ _)) (Runs.step (a := (Ref.new i 0).add 6) rfl ?_)
     have g13' := g7.trans g13
     refine Runs.putAt (g13.has B) (cs' := Wk.cells { w with node := z } s0 s1 s2 s3 s7) (by simp) rfl fun h14 b14 u14 => ?_
     have m14 : Md (Fp.two i j) h h14 := g13'.thenM (u14.md (.inl rfl))
     refine fin (w' := { w with node := z }) ?_ ⟨s0, s1, s2, s3, s7, b14, n0.md m14 hd, n1.md m14 hd, GF.updo (v.grow g13') (i := some i) Fp.not_no (fun e => d3 e.symm) u14, d1, d2, d3⟩ m14
     unfold Wk.step
     rw [if_neg (by omega), if_neg (by omega), if_neg (by rw [c3]; simp), if_neg (by simpa using hp), e5, Int.toNat_natCast]
end Go.Ab

/- squeezed -/
set_option linter.unusedVariables false
set_option linter.unusedSimpArgs false
set_option maxRecDepth 10000
namespace Go.Ab
open Go.Proofs
theorem kkp {S : Fp} {i j : Nat} : ∀ (f : Nat) {w : Wk} {h : AH}, WalkAt T.kbe h S i j w → w.Ok → w.mu ≤ f →
  Runs (go (.pt F.kbg Td.kci [(0, .ptr (some (.new i 0)))]) h) fun v h' => v = .tup [] ∧ WalkAt T.kbe h' S i j (w.on f) ∧ Md (Fp.two i j) h h' := by
 intro f
 induction f with
 | zero => ?_
 | succ f ih => ?_
 all_goals
  intro w h n o hf
  have n' := n
  obtain ⟨s0, s1, s2, s3, s7, b, n0, n1, v, d1, d2, d3⟩ := n'
  rw [kpb]
  refine Runs.step rfl (Runs.step (b.rn _ rfl (kb _ _)) (Runs.step rfl (Runs.step (b.rn _ rfl (asSl_v _)) ?_)))
  rw [n1.ids.len]
  have hrow := o.row
  have hend := o.over
  have hsc := o.sc
  have h16 := kd8 o.m
  have h256 := kd3 o.t
  have ht := o.tree
  refine Runs.cond (fun c => ?_) (fun c => ?_)
  rotate_left
  ·have hs : w.step = none := by
    unfold Wk.step
    rw [if_pos]
    simp at c
    omega
   refine Runs.ret ⟨rfl, ?_, Md.refl _ _⟩
   have : ∀ f, w.on f = w := fun f => by cases f <;> simp [Wk.on, hs]
   rw [this]
   exact n
  rw [decide_eq_true_eq] at c
  have hr : w.row < w.t.ids.length := by omega
  refine Runs.step rfl (Runs.step (b.rn _ rfl (kb _ _)) (Runs.step rfl (Runs.step (b.rn _ rfl (asSl_v _)) ?_)))
  rw [n0.len]
 ·have hs : w.step = none := by
   cases e : w.step with
   | none => rfl
   | some w' => have := (o.step e).2.1; omega
  have hst := o.stop hs
  obtain ⟨_, h2, h3, h4⟩ := hst.resolve_left (by omega)
  obtain ⟨hx, ex, hmay, h63⟩ := o.at hr h2
  obtain ⟨r, s', e4, -, e5, n'⟩ := n0.sl h2
  obtain ⟨r2, e6, f0, f1, f2, f3, f4, f5, f6⟩ := n'.nd hx
  refine Runs.ifF (decide_eq_false (by omega)) ?_
  refine Runs.step rfl (Runs.step (b.rn _ rfl (asSl_v _)) (Runs.step rfl (Runs.step (b.rn _ rfl (kb _ _)) (Runs.step e4 (Runs.step e5 (Runs.step rfl (Runs.step (b.rn _ rfl (kb _ _)) (Runs.step e6 ?_))))))))
  refine Runs.step f0 (Runs.step f1 (Runs.step f2 (Runs.step f3 (Runs.step f4 (Runs.step f5 (Runs.step f6 ?_))))))
  refine Runs.new fun h6 b6 g6 => ?_
  refine Runs.when (kcl f0 g6 0 7 |> fun x => by rwa [Ref.add_zero] at x) (Runs.when (g6.same0 b _ 1) (Runs.when (kcl e5 g6 0 1) (Runs.when (g6.same0 b _ 1) (Runs.when (g6.same0 b _ 1) ?_))))
  refine Runs.puts b6 rfl fun h7 b7 u7 => ?_
  have g7 : Grow h h7 := g6.updr (Nat.le_refl _) u7
  rw [ex] at h3 h4
  refine Runs.step (b7.rd 0 rfl rfl) (Runs.ifF h3 (Runs.step (b7.rd 2 rfl (kb _ _)) (Runs.ifT (by simpa using h4) (Runs.ret ⟨rfl, n.grow g7, g7.md _⟩))))
 ·have fin : ∀ {w' : Wk} {h' : AH}, w.step = some w' → WalkAt T.kbe h' S i j w' → Md (Fp.two i j) h h' → Runs (go (.pt F.kbg Td.kci [(0, .ptr (some (.new i 0)))]) h') fun v h'' => v = .tup [] ∧ WalkAt T.kbe h'' S i j (w.on (f + 1)) ∧ Md (Fp.two i j) h h'' := fun {w' h'} e n' m => by
   obtain ⟨o', lt, -, -⟩ := o.step e
   have : w.on (f + 1) = w'.on f := by simp only [Wk.on, e]
   rw [this]
   exact (ih n' o' (by omega)).imp fun v h'' ⟨a, b, c⟩ => ⟨a, b, m.trans c⟩
  have hd : Dis S (Fp.two i j) := fun k a b => by rcases b with rfl | rfl; exact d1 a; exact d2 a
  refine Runs.cond (fun c2 => ?_) (fun c2 => ?_)
  ·rw [decide_eq_true_eq] at c2
   refine Runs.step rfl (Runs.step (b.rn _ rfl (kb _ _)) (Runs.step rfl ?_))
   rw [ki (by omega)]
   refine Runs.putAt b (cs' := Wk.cells { w with row := w.row + 1 } s0 s1 s2 s3 s7) (by simp) rfl fun h3 b3 u3 => Runs.step rfl ?_
   refine Runs.putAt b3 (cs' := Wk.cells { w with row := w.row + 1, tree := 0 } s0 s1 s2 s3 s7) (by simp) rfl fun h4 b4 u4 => Runs.step rfl ?_
   refine Runs.putAt b4 (cs' := Wk.cells { w with row := w.row + 1, tree := 0, node := 0 } s0 s1 s2 s3 s7) (by simp) rfl fun h5 b5 u5 => ?_
   have U := (u3.trans u4).trans u5
   have m3 : Md (Fp.two i j) h h5 := U.md (.inl rfl)
   refine fin (w' := { w with row := w.row + 1, tree := 0, node := 0 }) (by unfold Wk.step; rw [if_neg (by omega), if_pos (by omega)]) ⟨s0, s1, s2, s3, s7, b5, n0.md m3 hd, n1.md m3 hd, GF.updo v (i := some i) Fp.not_no (fun e => d3 e.symm) U, d1, d2, d3⟩ m3
  ·rw [decide_eq_false_iff_not] at c2
   have h2 : w.tree < w.m.length := by omega
   obtain ⟨hx, ex, hmay, h63⟩ := o.at hr h2
   obtain ⟨r, s', e4, -, e5, n'⟩ := n0.sl h2
   obtain ⟨r2, e6, f0, f1, f2, f3, f4, f5, f6⟩ := n'.nd hx
   refine Runs.step rfl (Runs.step (b.rn _ rfl (asSl_v _)) (Runs.step rfl (Runs.step (b.rn _ rfl (kb _ _)) (Runs.step e4 (Runs.step e5 (Runs.step rfl (Runs.step (b.rn _ rfl (kb _ _)) (Runs.step e6 ?_))))))))
   refine Runs.step f0 (Runs.step f1 (Runs.step f2 (Runs.step f3 (Runs.step f4 (Runs.step f5 (Runs.step f6 ?_))))))
   rw [← ex]
   refine Runs.new fun h6 b6 g6 => ?_
   refine Runs.when (kcl f0 g6 0 7 |> fun x => by rwa [Ref.add_zero] at x) (Runs.when (g6.same0 b _ 1) (Runs.when (kcl e5 g6 0 1) (Runs.when (g6.same0 b _ 1) (Runs.when (g6.same0 b _ 1) ?_))))
   refine Runs.puts b6 rfl fun h7 b7 u7 => ?_
   have g7 : Grow h h7 := g6.updr (Nat.le_refl _) u7
   have B := g7.has b
   have hi6 : h.blks.size ≠ i := fun e => by have := b.lt; omega
   refine Runs.step (b7.rd 0 rfl rfl) (Runs.cond (fun c3 => ?_) (fun c3 => ?_))
   ·have hrs : w.row < w.sc.length := by omega
    have v7 := v.grow g7
    obtain ⟨r, e1, e2⟩ := v7.sq.int hrs
    obtain ⟨r', h9, e3, e4, v9, u9⟩ := v7.set (T := Fp.no) (cs := [.int .i64 (IntKind.wrap .i64 (w.sc[w.row] + w.nd.weight))]) (x := IntKind.wrap .i64 (w.sc[w.row] + w.nd.weight)) rfl NotO.no (kkl hrs)
    rw [← v.len] at e3
    have e3 : idx s7.ref s7.len (w.row : Int) 1 = some r' := e3
    refine Runs.step rfl (Runs.step (B.rn 7 rfl (asSl_v _)) (Runs.step rfl (Runs.step (B.rn 4 rfl (kb _ _)) (Runs.step rfl (Runs.step (B.rn 7 rfl (asSl_v _)) (Runs.step rfl (Runs.step (B.rn 4 rfl (kb _ _)) (Runs.step e1 (Runs.step e2 (Runs.step (b7.rd 1 rfl (kb _ _)) (Runs.step e3 (Runs.step e4 ?_))))))))))))
    have B9 := AH.has.updr B d3 u9
    refine Runs.step rfl (Runs.step (B9.rn _ rfl (kb _ _)) (Runs.step rfl ?_))
    rw [ki (by omega)]
    have hg : w.sc.getD w.row 0 = w.sc[w.row] := by simp [List.getD, hrs]
    refine Runs.putAt B9 (cs' := Wk.cells { w with tree := w.tree + 1 } s0 s1 s2 s3 s7) (by simp) rfl fun h10 b10 u10 => Runs.step rfl ?_
    refine Runs.putAt b10 (cs' := Wk.cells { w with tree := w.tree + 1, node := 0, sc := w.sc.set w.row (IntKind.wrap .i64 (w.sc.getD w.row 0 + w.nd.weight)) } s0 s1 s2 s3 s7) (by simp) rfl fun h11 b11 u11 => ?_
    have U := u10.trans u11
    have m9 : Md (Fp.two i j) h h9 := g7.thenM (Upd.md u9 (.inr rfl))
    have m10 : Md (Fp.two i j) h h11 := m9.trans (U.md (.inl rfl))
    refine fin (w' := { w with tree := w.tree + 1, node := 0, sc := w.sc.set w.row (IntKind.wrap .i64 (w.sc.getD w.row 0 + w.nd.weight)) }) (by unfold Wk.step; rw [if_neg (by omega), if_neg (by omega), if_pos c3]) ⟨s0, s1, s2, s3, s7, b11, n0.md m10 hd, n1.md m10 hd, ?_, d1, d2, d3⟩ m10
    rw [hg]
    exact GF.updo (GF.mono v9 (fun k x => x.elim id id) (i := some j) Fp.not_no) (i := some i) Fp.not_no (fun e => d3 e.symm) U
   ·refine Runs.step (b7.rd 2 rfl (kb _ _)) (Runs.cond (fun c4 => ?_) (fun c4 => ?_))
    ·have hs : w.step = none := by
      unfold Wk.step
      rw [if_neg (by omega), if_neg (by omega), if_neg (by rw [c3]; simp), if_pos (by simpa using c4)]
     have : w.on (f + 1) = w := by simp only [Wk.on, hs]
     rw [this]
     exact Runs.ret ⟨rfl, n.grow g7, g7.md _⟩
    ·have hp : w.nd.party = 0 := by simpa using c4
     obtain ⟨z, e5, h8, h9, h10, h11⟩ := o.kid hr h2 c3 (decide (w.bin ≤ w.nd.cut))
     obtain ⟨z', e5', -⟩ := o.kid hr h2 c3 false
     have e5' : w.nd.right = (z' : Int) := e5'
     obtain ⟨fe, e6, hf, h12, hbin⟩ := o.feature hr h2 c3 hp
     refine Runs.step (b7.rd 6 rfl (kb _ _)) (Runs.step rfl ?_)
     rw [e5']
     refine Runs.putAt B (cs' := Wk.cells { w with node := z' } s0 s1 s2 s3 s7) (by simp) rfl fun h9 B9 u9 => ?_
     have m9 : Md (Fp.two i j) h h9 := g7.thenM (u9.md (.inl rfl))
     obtain ⟨r1, s', k1, k2, -, k3⟩ := (n1.cols.md m9 hd).sl hf
     obtain ⟨r2, k4, k5⟩ := k3.int h12
     have b9 := AH.has.updr b7 hi6 u9
     refine Runs.step rfl (Runs.step (B9.rn _ rfl (asSl_v _)) (Runs.step (b9.rd 3 rfl (kb _ _)) ?_))
     rw [e6]
     refine Runs.step k1 (Runs.step k2 (Runs.step rfl (Runs.step (B9.rn _ rfl (kb _ _)) (Runs.step k4 (Runs.step k5 (Runs.step (b9.rd 4 rfl (kb _ _)) ?_))))))
     have hbb : w.bin = w.t.cols[fe][w.row] := by rw [hbin]; simp [List.getD, h12]
     rw [← hbb]
     have hst : w.step = some { w with node := z } := by
      unfold Wk.step
      rw [if_neg (by omega), if_neg (by omega), if_neg (by rw [c3]; simp), if_neg (by simpa using hp), e5, Int.toNat_natCast]
     unfold Wk.kid at e5
     refine Runs.cond (fun c5 => ?_) (fun c5 => ?_)
     ·rw [c5, if_pos rfl] at e5
      refine Runs.step (b9.rd 5 rfl (kb _ _)) (Runs.step rfl ?_)
      rw [e5]
      refine Runs.putAt B9 (cs' := Wk.cells { w with node := z } s0 s1 s2 s3 s7) (by simp) rfl fun h14 b14 u14 => ?_
      have m14 := m9.trans (u14.md (T := Fp.two i j) (.inl rfl))
      exact fin hst ⟨s0, s1, s2, s3, s7, b14, n0.md m14 hd, n1.md m14 hd, GF.updo (v.grow g7) (i := some i) Fp.not_no (fun e => d3 e.symm) (u9.trans u14), d1, d2, d3⟩ m14
     ·rw [c5, if_neg (by simp), e5'] at e5
      have : z' = z := by omega
      subst this
      exact fin hst ⟨s0, s1, s2, s3, s7, B9, n0.md m9 hd, n1.md m9 hd, GF.updo (v.grow g7) (i := some i) Fp.not_no (fun e => d3 e.symm) u9, d1, d2, d3⟩ m9
end Go.Ab

/- squeezed -/
set_option linter.unusedVariables false
set_option linter.unusedSimpArgs false
set_option maxRecDepth 10000
namespace Go.Ab
open Go.Proofs
theorem kp7 {n : Nat} (h : n ≤ 1000000) : growOk Pg n T.int 1 = true := by
 unfold growOk
 rw [kms, kjx]
 have h1 : n * 8 ≤ kp := by simp only [kp]; omega
 have h2 : n ≤ kp := by simp only [kp]; omega
 simp [h1, h2]
theorem kom {h : AH} {S : Fp} {s : Sl} {xs : List Int} (n : Sq EI h S s xs) (hl : xs.length ≤ 1000000) : Runs (go (.fn F.kho [s.v]) h) fun v h' => ∃ (s' : Sl) (i : Option Nat), v = s'.v ∧ GF EI T.int h' (fun j => S j ∧ j < h.blks.size) s' i xs ∧ Grow h h' ∧ LeO h.blks.size i := by
 rw [kmb]
 exact Runs.clone (P := Pg) (elem := T.int) n kdw (kp7 hl)
@[reducible] def nilS : Sl := ⟨none, 0, .is 0⟩
def Wk.next (w : Wk) : List AV := if w.row < w.t.ids.length then [.int .i64 w.nd.party, .int .i64 8, .int .i64 w.nd.feature, .int .i64 (w.row : Int), .int .i64 0, nilS.v, nilS.v, nilS.v]
 else [.int .i64 0, .int .i64 0, .int .i64 0, .int .i64 0, .int .i64 0, nilS.v, nilS.v, nilS.v]
def Wk.go (w : Wk) : Wk := w.on w.mu
open Classical in
noncomputable def Wk.answer (w : Wk) (frm : Int) (m : Ms) : Int × Wk :=
 if ¬ w.row < w.t.ids.length then (18, w)
 else if ¬ m.ok ∨ m.kind ≠ 9 then (16, w)
 else if frm ≠ w.nd.party ∨ m.a ≠ w.nd.feature ∨ m.b ≠ (w.row : Int) then (18, w)
 else (0, Wk.go { w with node := (w.kid (decide (m.c = 1))).toNat })
section
variable {h : AH} {S S' : Fp} {i j : Nat} {w : Wk}
theorem kij (n : WalkAt T.kx h S i j w) (o : w.Ok) (hs : w.step = none) : Runs (go (.fn F.kfe [.ptr (some (.new i 0))]) h) fun v h' => v = .tup [.agg w.next, .bool (decide (w.row < w.t.ids.length))] ∧ Grow h h' := by
 have n' := n
 obtain ⟨s0, s1, s2, s3, s7, b, n0, n1, v, d1, d2, d3⟩ := n'
 have hst := o.stop hs
 have hov := o.over
 have hsc := o.sc
 rw [krl]
 refine Runs.new fun h2 b2 g2 => ?_
 have b' := g2.has b
 refine Runs.step rfl (Runs.step (b'.rn _ rfl (kb _ _)) (Runs.step (b'.rn _ rfl (kb _ _)) (Runs.step (b'.rn _ rfl (kb _ _)) ?_)))
 refine (khc (n.grow g2)).call fun _ h3 ⟨e, g3⟩ => ?_
 subst e
 refine Runs.step rfl (Runs.ifT rfl (Runs.step (seenAt rfl (kb _ _)) (Runs.step (seenAt rfl (kb _ _)) (Runs.step (seenAt rfl (kb _ _)) (Runs.when (g3.same0 b' _ 3) ?_)))))
 have b3 := g3.has b2
 refine Runs.cond (fun c => ?_) (fun c => ?_)
 ·have hr : ¬ w.row < w.t.ids.length := by simp at c; omega
  refine Runs.puts b3 rfl fun h4 b4 u4 => ?_
  repeat refine Runs.step (AH.has.rd b4 _ rfl (by first | exact kb _ _ | exact asSl_v _)) ?_
  refine Runs.ret ⟨?_, (g2.trans g3).updr (Nat.le_refl _) u4⟩
  unfold Wk.next
  rw [if_neg hr, decide_eq_false hr]
 ·have hr : w.row < w.t.ids.length := by simp at c; omega
  obtain ⟨_, ht, hl, hp⟩ := hst.resolve_left (by omega)
  refine (ke4 (n.grow (g2.trans g3)) o hr ht).call fun _ h5 ⟨e, g5⟩ => ?_
  subst e
  refine Runs.step rfl (Runs.ifT rfl ?_)
  repeat refine Runs.step (seenAt rfl (by first | exact kb _ _ | rfl)) ?_
  refine Runs.new fun h6 b6 g6 => Runs.puts b6 rfl fun h7 b7 u7 => ?_
  have g7 : Grow h5 h7 := g6.updr (Nat.le_refl _) u7
  have B := (g3.trans (g5.trans g7)).has b'
  refine Runs.step (b7.rd 2 rfl (kb _ _)) (Runs.step (b7.rd 3 rfl (kb _ _)) (Runs.step rfl (Runs.step (a := Ref.new i 4) rfl (Runs.step (B.rn 4 rfl (kb _ _)) ?_))))
  refine Runs.puts ((g5.trans g7).has b3) rfl fun h8 b8 u8 => ?_
  repeat refine Runs.step (AH.has.rd b8 _ rfl (by first | exact kb _ _ | exact asSl_v _)) ?_
  refine Runs.ret ⟨?_, ((g2.trans g3).trans (g5.trans g7)).updr (Nat.le_refl _) u8⟩
  unfold Wk.next
  rw [if_pos hr, decide_eq_true hr]
theorem kh3 (n : WalkAt T.kbe h S i j w) (o : w.Ok) (hs : w.step = none) : Runs (go (.fn F.kex [.ptr (some (.new i 0))]) h) fun v h' => v = .tup [.agg w.next, .bool (decide (w.row < w.t.ids.length))] ∧ Grow h h' := by
 have n' := n
 obtain ⟨s0, s1, s2, s3, s7, b, n0, n1, v, d1, d2, d3⟩ := n'
 have hst := o.stop hs
 rw [km0]
 refine Runs.new fun h2 b2 g2 => ?_
 have b' := g2.has b
 refine Runs.step rfl (Runs.step (b'.rn _ rfl (kb _ _)) (Runs.step rfl (Runs.step (b'.rn _ rfl (asSl_v _)) ?_)))
 rw [n1.ids.len]
 refine Runs.cond (fun c => ?_) (fun c => ?_)
 ·have hr : ¬ w.row < w.t.ids.length := by simp at c; omega
  refine Runs.puts b2 rfl fun h4 b4 u4 => ?_
  repeat refine Runs.step (AH.has.rd b4 _ rfl (by first | exact kb _ _ | exact asSl_v _)) ?_
  refine Runs.ret ⟨?_, g2.updr (Nat.le_refl _) u4⟩
  unfold Wk.next
  rw [if_neg hr, decide_eq_false hr]
 ·have hr : w.row < w.t.ids.length := by simp at c; omega
  obtain ⟨_, ht, hl, hp⟩ := hst.resolve_left (by omega)
  obtain ⟨hx, ex, hmay, h63⟩ := o.at hr ht
  obtain ⟨r, s', e4, -, e5, n'⟩ := (n0.grow g2).sl ht
  obtain ⟨r2, e6, f0, f1, f2, f3, f4, f5, f6⟩ := n'.nd hx
  refine Runs.step rfl (Runs.step (b'.rn _ rfl (asSl_v _)) (Runs.step rfl (Runs.step (b'.rn _ rfl (kb _ _)) (Runs.step e4 (Runs.step e5 (Runs.step rfl (Runs.step (b'.rn _ rfl (kb _ _)) (Runs.step e6 ?_))))))))
  refine Runs.step f0 (Runs.step f1 (Runs.step f2 (Runs.step f3 (Runs.step f4 (Runs.step f5 (Runs.step f6 ?_))))))
  rw [← ex]
  refine Runs.new fun h6 b6 g6 => ?_
  refine Runs.when (kcl f0 g6 0 7 |> fun x => by rwa [Ref.add_zero] at x) (Runs.when (g6.same0 b' _ 1) (Runs.when (kcl e5 g6 0 1) (Runs.when (g6.same0 b' _ 1) (Runs.when (g6.same0 b' _ 1) ?_))))
  refine Runs.puts b6 rfl fun h7 b7 u7 => ?_
  have g7 : Grow h2 h7 := g6.updr (Nat.le_refl _) u7
  have B := g7.has b'
  refine Runs.step (b7.rd 2 rfl (kb _ _)) (Runs.step (b7.rd 3 rfl (kb _ _)) (Runs.step rfl (Runs.step (B.rn 4 rfl (kb _ _)) ?_)))
  refine Runs.puts (g7.has b2) rfl fun h8 b8 u8 => ?_
  repeat refine Runs.step (AH.has.rd b8 _ rfl (by first | exact kb _ _ | exact asSl_v _)) ?_
  refine Runs.ret ⟨?_, (g2.trans g7).updr (Nat.le_refl _) u8⟩
  unfold Wk.next
  rw [if_pos hr, decide_eq_true hr]
theorem kjq (n : WalkAt T.kx h S i j w) (o : w.Ok) (hs : w.step = none) : Runs (go (.fn F.kf1 [.ptr (some (.new i 0))]) h) fun v h' => ∃ (s' : Sl) (k : Option Nat), v = .tup [s'.v, .bool (!decide (w.row < w.t.ids.length))] ∧ GF EI T.int h' Fp.no s' k w.sc ∧ Grow h h' := by
 have n' := n
 obtain ⟨s0, s1, s2, s3, s7, b, n0, n1, v, d1, d2, d3⟩ := n'
 have hst := o.stop hs
 have hov := o.over
 have hsc := o.sc
 have h256 := kd3 o.t
 rw [krp]
 refine Runs.step rfl (Runs.step (b.rn _ rfl (asSl_v _)) (Runs.step rfl (Runs.step (b.rn _ rfl (kb _ _)) (Runs.step (b.rn _ rfl (kb _ _)) (Runs.step (b.rn _ rfl (kb _ _)) ?_)))))
 refine (kom v.sq (by omega)).call fun _ h1 ⟨s', k, e, v1, g1, l1⟩ => ?_
 subst e
 have b1 := g1.has b
 refine Runs.step (seen (asSl_v _)) (Runs.when (g1.same0 b _ 3) ?_)
 refine (khc (n.grow g1)).call fun _ h3 ⟨e, g3⟩ => ?_
 subst e
 refine Runs.step rfl (Runs.ifT rfl (Runs.step (seenAt rfl (kb _ _)) (Runs.step (seenAt rfl (kb _ _)) (Runs.step (seenAt rfl (kb _ _)) (Runs.when (g3.same0 b1 _ 3) ?_)))))
 refine Runs.ret ⟨s', k, ?_, ?_, g1.trans g3⟩
 ·congr 3
  by_cases hr : w.row < w.t.ids.length
  ·rw [decide_eq_true hr, decide_eq_false (show ¬ (w.row : Int) = (w.sc.length : Int) by omega)]
   rfl
  ·have hr2 := o.row
   rw [decide_eq_false hr, decide_eq_true (show (w.row : Int) = (w.sc.length : Int) by omega), decide_eq_true (show (w.tree : Int) = 0 by omega), decide_eq_true (show (w.node : Int) = 0 by omega)]
   rfl
 ·have v3 := v1.grow g3
  cases k with
  | none => exact v3
  | some k =>
   obtain ⟨l, a, r, ln, rows, e', bb, c, r2⟩ := v3
   exact ⟨l, Fp.not_no, r, ln, rows, e', bb, c, r2.imp fun _ _ x => x⟩
end
end Go.Ab

/- squeezed -/
set_option linter.unusedVariables false
set_option linter.unusedSimpArgs false
set_option maxRecDepth 10000
namespace Go.Ab
open Go.Proofs
def AnsP (ty : TypeId) (h : AH) (S : Fp) (i j : Nat) (r : Int × Wk) (v : AV) (h' : AH) : Prop := v = .int .i64 r.1 ∧ WalkAt ty h' S i j r.2 ∧ Md (Fp.two i j) h h'
section
variable {h : AH} {S S' : Fp} {i j : Nat} {w : Wk} {m : Ms} {s5 s6 s7 : Sl}
theorem Wk.next_open (hr : w.row < w.t.ids.length) : w.next = [.int .i64 w.nd.party, .int .i64 8, .int .i64 w.nd.feature, .int .i64 (w.row : Int), .int .i64 0, nilS.v, nilS.v, nilS.v] := by
 unfold Wk.next
 rw [if_pos hr]
theorem Wk.next_cells : ∃ a b c d e, w.next = [.int .i64 a, .int .i64 b, .int .i64 c, .int .i64 d, .int .i64 e, nilS.v, nilS.v, nilS.v] := by
 unfold Wk.next
 split <;> exact ⟨_, _, _, _, _, rfl⟩
theorem klg (n : WalkAt T.kx h S i j w) (o : w.Ok) (hs : w.step = none) (nm : MsAt h S' s5 s6 s7 m) (frm : Int) : Runs (go (.fn F.kg5 [.ptr (some (.new i 0)), .int .i64 frm, .agg (m.cells s5 s6 s7)]) h) (AnsP T.kx h S i j (w.answer frm m)) := by
 have n' := n
 obtain ⟨s0, s1, s2, s3, t7, b, n0, n1, v, d1, d2, d3⟩ := n'
 have hst := o.stop hs
 rw [kq2]
 refine Runs.new fun h1 b1 g1 => ?_
 refine (kij (n.grow g1) o hs).call fun _ h2 ⟨e, g2⟩ => ?_
 subst e
 obtain ⟨x1, x2, x3, x4, x5, ex⟩ := Wk.next_cells (w := w)
 have go1 : w.row < w.t.ids.length → x1 = w.nd.party ∧ x3 = w.nd.feature ∧ x4 = (w.row : Int) := fun hr => by
  rw [Wk.next_open hr] at ex
  simp at ex
  exact ⟨ex.1.symm, ex.2.2.1.symm, ex.2.2.2.1.symm⟩
 rw [ex]
 refine Runs.step rfl (Runs.step rfl (Runs.ifT rfl ?_))
 repeat refine Runs.step (seenAt rfl (by first | exact kb _ _ | exact asSl_v _)) ?_
 refine Runs.step (seen rfl) (Runs.new fun h3 b3 g3 => Runs.puts b3 rfl fun h4 b4 u4 => ?_)
 have g4 : Grow h2 h4 := g3.updr (Nat.le_refl _) u4
 have G := g1.trans (g2.trans g4)
 have B1 := (g2.trans g4).has b1
 unfold Wk.answer
 refine Runs.cond (fun c => ?_) (fun c => ?_)
 ·have hr : ¬ w.row < w.t.ids.length := by simpa using c
  rw [if_pos hr]
  exact Runs.ret ⟨rfl, n.grow G, G.md _⟩
 have hr : w.row < w.t.ids.length := by simpa using c
 obtain ⟨rfl, rfl, rfl⟩ := go1 hr
 obtain ⟨_, ht, hl, hp⟩ := hst.resolve_left (by omega)
 rw [if_neg (by simpa using hr)]
 repeat refine Runs.step (AH.has.rd B1 _ rfl (by first | exact kb _ _ | exact asSl_v _)) ?_
 refine (krd (nm.grow G)).call fun _ h5 ⟨⟨z, e, hz⟩, g5⟩ => ?_
 subst e
 have G5 := G.trans g5
 have B5 := g5.has B1
 have b5 := g5.has b4
 refine Runs.step (seen rfl) (Runs.cond (fun c2 => ?_) (fun c2 => ?_))
 ·rw [if_pos (by left; intro hm; rw [hz.2 hm] at c2; cases c2)]
  exact Runs.ret ⟨rfl, n.grow G5, G5.md _⟩
 have hm : m.ok := hz.1 (by simpa using c2)
 refine Runs.step (B5.rd 0 rfl (kb _ _)) (Runs.cond (fun c3 => ?_) (fun c3 => ?_))
 ·rw [if_pos (by right; simpa using c3)]
  exact Runs.ret ⟨rfl, n.grow G5, G5.md _⟩
 have hk : m.kind = 9 := by simpa using c3
 rw [if_neg (by simp [hm, hk])]
 refine Runs.step (b5.rd 0 rfl (kb _ _)) (Runs.cond (fun c4 => ?_) (fun c4 => ?_))
 ·rw [if_pos (by left; simpa using c4)]
  exact Runs.ret ⟨rfl, n.grow G5, G5.md _⟩
 refine Runs.step (B5.rd 1 rfl (kb _ _)) (Runs.step (b5.rn _ rfl (kb _ _)) (Runs.cond (fun c5 => ?_) (fun c5 => ?_)))
 ·rw [if_pos (by right; left; simpa using c5)]
  exact Runs.ret ⟨rfl, n.grow G5, G5.md _⟩
 refine Runs.step (B5.rd 2 rfl (kb _ _)) (Runs.step (b5.rn _ rfl (kb _ _)) (Runs.cond (fun c6 => ?_) (fun c6 => ?_)))
 ·rw [if_pos (by right; right; simpa using c6)]
  exact Runs.ret ⟨rfl, n.grow G5, G5.md _⟩
 rw [if_neg (by simp at c4 c5 c6; simp [c4, c5, c6])]
 obtain ⟨zz, e5, h8, h9, h10, h11⟩ := o.kid hr ht hl (decide (m.c = 1))
 rw [e5, Int.toNat_natCast]
 refine Runs.step (B5.rd 3 rfl (kb _ _)) (Runs.step rfl ?_)
 refine (ke4 (n.grow G5) o hr ht).call fun _ h6 ⟨e, g6⟩ => ?_
 subst e
 refine Runs.step rfl (Runs.ifT rfl ?_)
 repeat refine Runs.step (seenAt rfl (by first | exact kb _ _ | rfl)) ?_
 refine Runs.when (g6.same B5 3 1) ?_
 refine (kjy w.nd (decide (m.c = 1))).call fun _ h7 ⟨e, g7⟩ => ?_
 subst e
 have hk2 : (if decide (m.c = 1) = true then w.nd.left else w.nd.right) = (zz : Int) := e5
 rw [hk2]
 have G7 := G5.trans (g6.trans g7)
 refine Runs.step (seen (kb _ _)) (Runs.step (a := (Ref.new i 0).add 6) rfl ?_)
 refine Runs.putAt (G7.has b) (cs' := Wk.cells { w with node := zz } s0 s1 s2 s3 t7) (by simp) rfl fun h14 b14 u14 => ?_
 have m14 : Md (Fp.two i j) h h14 := G7.thenM (u14.md (.inl rfl))
 have hd : Dis S (Fp.two i j) := fun k a b => by rcases b with rfl | rfl; exact d1 a; exact d2 a
 have n14 : WalkAt T.kx h14 S i j { w with node := zz } := ⟨s0, s1, s2, s3, t7, b14, n0.md m14 hd, n1.md m14 hd, GF.updo (v.grow G7) (i := some i) Fp.not_no (fun e => d3 e.symm) u14, d1, d2, d3⟩
 rw [kia]
 refine (kjf _ n14 h11 (Nat.le_refl _)).call fun _ h15 ⟨e, n15, m15⟩ => ?_
 subst e
 exact Runs.step rfl (Runs.ret ⟨rfl, n15, m14.trans m15⟩)
theorem knw (n : WalkAt T.kbe h S i j w) (o : w.Ok) (hs : w.step = none) (nm : MsAt h S' s5 s6 s7 m) (frm : Int) : Runs (go (.fn F.kgs [.ptr (some (.new i 0)), .int .i64 frm, .agg (m.cells s5 s6 s7)]) h) (AnsP T.kbe h S i j (w.answer frm m)) := by
 have n' := n
 obtain ⟨s0, s1, s2, s3, t7, b, n0, n1, v, d1, d2, d3⟩ := n'
 have hst := o.stop hs
 rw [kn0]
 refine Runs.new fun h1 b1 g1 => ?_
 refine (kh3 (n.grow g1) o hs).call fun _ h2 ⟨e, g2⟩ => ?_
 subst e
 obtain ⟨x1, x2, x3, x4, x5, ex⟩ := Wk.next_cells (w := w)
 have go1 : w.row < w.t.ids.length → x1 = w.nd.party ∧ x3 = w.nd.feature ∧ x4 = (w.row : Int) := fun hr => by
  rw [Wk.next_open hr] at ex
  simp at ex
  exact ⟨ex.1.symm, ex.2.2.1.symm, ex.2.2.2.1.symm⟩
 rw [ex]
 refine Runs.step rfl (Runs.step rfl (Runs.ifT rfl ?_))
 repeat refine Runs.step (seenAt rfl (by first | exact kb _ _ | exact asSl_v _)) ?_
 refine Runs.step (seen rfl) (Runs.new fun h3 b3 g3 => Runs.puts b3 rfl fun h4 b4 u4 => ?_)
 have g4 : Grow h2 h4 := g3.updr (Nat.le_refl _) u4
 have G := g1.trans (g2.trans g4)
 have B1 := (g2.trans g4).has b1
 unfold Wk.answer
 refine Runs.cond (fun c => ?_) (fun c => ?_)
 ·have hr : ¬ w.row < w.t.ids.length := by simpa using c
  rw [if_pos hr]
  exact Runs.ret ⟨rfl, n.grow G, G.md _⟩
 have hr : w.row < w.t.ids.length := by simpa using c
 obtain ⟨rfl, rfl, rfl⟩ := go1 hr
 obtain ⟨_, ht, hl, hp⟩ := hst.resolve_left (by omega)
 rw [if_neg (by simpa using hr)]
 repeat refine Runs.step (AH.has.rd B1 _ rfl (by first | exact kb _ _ | exact asSl_v _)) ?_
 refine (kl0 (nm.grow G)).call fun _ h5 ⟨⟨z, e, hz⟩, g5⟩ => ?_
 subst e
 have G5 := G.trans g5
 have B5 := g5.has B1
 have b5 := g5.has b4
 refine Runs.step (seen rfl) (Runs.cond (fun c2 => ?_) (fun c2 => ?_))
 ·rw [if_pos (by left; intro hm; rw [hz.2 hm] at c2; cases c2)]
  exact Runs.ret ⟨rfl, n.grow G5, G5.md _⟩
 have hm : m.ok := hz.1 (by simpa using c2)
 refine Runs.step (B5.rd 0 rfl (kb _ _)) (Runs.cond (fun c3 => ?_) (fun c3 => ?_))
 ·rw [if_pos (by right; simpa using c3)]
  exact Runs.ret ⟨rfl, n.grow G5, G5.md _⟩
 have hk : m.kind = 9 := by simpa using c3
 rw [if_neg (by simp [hm, hk])]
 refine Runs.step (b5.rd 0 rfl (kb _ _)) (Runs.cond (fun c4 => ?_) (fun c4 => ?_))
 ·rw [if_pos (by left; simpa using c4)]
  exact Runs.ret ⟨rfl, n.grow G5, G5.md _⟩
 refine Runs.step (B5.rd 1 rfl (kb _ _)) (Runs.step (b5.rn _ rfl (kb _ _)) (Runs.cond (fun c5 => ?_) (fun c5 => ?_)))
 ·rw [if_pos (by right; left; simpa using c5)]
  exact Runs.ret ⟨rfl, n.grow G5, G5.md _⟩
 refine Runs.step (B5.rd 2 rfl (kb _ _)) (Runs.step (b5.rn _ rfl (kb _ _)) (Runs.cond (fun c6 => ?_) (fun c6 => ?_)))
 ·rw [if_pos (by right; right; simpa using c6)]
  exact Runs.ret ⟨rfl, n.grow G5, G5.md _⟩
 rw [if_neg (by simp at c4 c5 c6; simp [c4, c5, c6])]
 obtain ⟨zz, e5, h8, h9, h10, h11⟩ := o.kid hr ht hl (decide (m.c = 1))
 obtain ⟨z', e5', -⟩ := o.kid hr ht hl false
 have e5' : w.nd.right = (z' : Int) := e5'
 rw [e5, Int.toNat_natCast]
 have B := G5.has b
 obtain ⟨hx, ex2, hmay, h63⟩ := o.at hr ht
 obtain ⟨r, s', e4, -, e6, n'⟩ := (n0.grow G5).sl ht
 obtain ⟨r2, e7, f0, f1, f2, f3, f4, f5, f6⟩ := n'.nd hx
 refine Runs.step rfl (Runs.step (B.rn _ rfl (asSl_v _)) (Runs.step rfl (Runs.step (B.rn _ rfl (kb _ _)) (Runs.step e4 (Runs.step e6 (Runs.step rfl (Runs.step (B.rn _ rfl (kb _ _)) (Runs.step e7 ?_))))))))
 refine Runs.step f0 (Runs.step f1 (Runs.step f2 (Runs.step f3 (Runs.step f4 (Runs.step f5 (Runs.step f6 ?_))))))
 rw [← ex2]
 refine Runs.new fun h6 b6 g6 => ?_
 refine Runs.when (kcl f0 g6 0 7 |> fun x => by rwa [Ref.add_zero] at x) (Runs.when (g6.same0 B _ 1) (Runs.when (kcl e6 g6 0 1) (Runs.when (g6.same0 B _ 1) (Runs.when (g6.same0 B _ 1) ?_))))
 refine Runs.puts b6 rfl fun h7 b7 u7 => ?_
 have g7 : Grow h5 h7 := g6.updr (Nat.le_refl _) u7
 have G7 := G5.trans g7
 have hd : Dis S (Fp.two i j) := fun k a b => by rcases b with rfl | rfl; exact d1 a; exact d2 a
 have hi6 : h5.blks.size ≠ i := fun e => by have := B.lt; omega
 refine Runs.step (b7.rd 6 rfl (kb _ _)) (Runs.step rfl ?_)
 rw [e5']
 refine Runs.putAt (G7.has b) (cs' := Wk.cells { w with node := z' } s0 s1 s2 s3 t7) (by simp) rfl fun h9 B9 u9 => ?_
 have m9 : Md (Fp.two i j) h h9 := G7.thenM (u9.md (.inl rfl))
 have b9 := AH.has.updr b7 hi6 u9
 have hm10 : h.blks.size ≠ i := fun e => by have := b.lt; omega
 have B10 := AH.has.updr (g7.has B5) hm10 u9
 have next : ∀ {hh : AH}, WalkAt T.kbe hh S i j { w with node := zz } → Md (Fp.two i j) h hh → Runs ((Go.Ab.go (.fn F.kbg [.ptr (some (.new i 0))]) hh).bind fun q => (AV.asTup0 q.1).bind fun _ => some (.int .i64 0, q.2)) (AnsP T.kbe h S i j (0, Wk.go { w with node := zz })) := fun {hh} nn mm => by
  rw [kjk]
  refine (kkp _ nn h11 (Nat.le_refl _)).call fun _ h15 ⟨e, n15, m15⟩ => ?_
  subst e
  exact Runs.step rfl (Runs.ret ⟨rfl, n15, mm.trans m15⟩)
 unfold Wk.kid at e5
 refine Runs.step (B10.rd 3 rfl (kb _ _)) (Runs.cond (fun c7 => ?_) (fun c7 => ?_))
 ·rw [c7, if_pos rfl] at e5
  refine Runs.step (b9.rd 5 rfl (kb _ _)) (Runs.step rfl ?_)
  rw [e5]
  refine Runs.putAt B9 (cs' := Wk.cells { w with node := zz } s0 s1 s2 s3 t7) (by simp) rfl fun h14 b14 u14 => ?_
  have m14 := m9.trans (u14.md (T := Fp.two i j) (.inl rfl))
  exact next ⟨s0, s1, s2, s3, t7, b14, n0.md m14 hd, n1.md m14 hd, GF.updo (v.grow G7) (i := some i) Fp.not_no (fun e => d3 e.symm) (u9.trans u14), d1, d2, d3⟩ m14
 ·rw [c7, if_neg (by simp), e5'] at e5
  have : z' = zz := by omega
  subst this
  exact next ⟨s0, s1, s2, s3, t7, B9, n0.md m9 hd, n1.md m9 hd, GF.updo (v.grow G7) (i := some i) Fp.not_no (fun e => d3 e.symm) u9, d1, d2, d3⟩ m9
end
end Go.Ab

/- squeezed -/
set_option linter.unusedVariables false
set_option linter.unusedSimpArgs false
set_option maxRecDepth 10000
namespace Go.Ab
open Go.Proofs
def oddN (parties : Int) (nc : Nat) (x : Nd) : Bool := !x.leaf && (decide (x.party ≥ parties) || (decide (x.party = 0) && decide (x.feature ≥ (nc : Int))))
def newE (m : List (List Nd)) (parties : Int) (t : Tb) : Int :=
 if modR m = false ∨ parties < 1 ∨ parties > 16 then 1 else if tabR t = false then 20 else if (m.any fun l => l.any (oddN parties t.cols.length)) = true then 1 else 0
def Wk.init (m : List (List Nd)) (t : Tb) : Wk := ⟨m, t, 0, 0, 0, List.replicate t.ids.length 0⟩
theorem Wk.init_ok {m : List (List Nd)} {t : Tb} {parties : Int} (hm : modR m = true) (ht : tabR t = true) (ho : (m.any fun l => l.any (oddN parties t.cols.length)) = false) : (Wk.init m t).Ok := by
 refine ⟨hm, ht, fun l hl x hx h1 h2 => ?_, List.length_replicate, Nat.zero_le _, Nat.zero_le _, fun h => ?_, fun _ => rfl, fun _ => ⟨rfl, rfl⟩⟩
 ·rw [List.any_eq_false] at ho
  have := ho l hl
  simp only [Bool.not_eq_true, List.any_eq_false] at this
  have := this x hx
  unfold oddN at this
  show x.feature < (t.cols.length : Int)
  simp [h1, h2] at this
  omega
 ·have h : 0 < m.length := h
  have := (kdi hm h).1
  show 0 < (m.getD 0 []).length
  simp [List.getD, h]
  omega
theorem GF.nd {e : TypeId} {h : AH} {S : Fp} {s : Sl} : ∀ {i : Option Nat} {xs : List Nd}, GF Ef.nd e h S s i xs → GF Ef.nd e h Fp.no s i xs
 | .none, _, v => v
 | .some k, _, ⟨l, a, r, ln, rows, e', b, c, r2⟩ => ⟨l, Fp.not_no, r, ln, rows, e', b, c, r2.imp fun _ _ x => x⟩
theorem kr6 {n : Nat} (h : n ≤ 1000000) : growOk Pg n T.ko 7 = true := by
 unfold growOk
 rw [ko7, ksi]
 have h1 : n * 56 ≤ kp := by simp only [kp]; omega
 have h2 : n ≤ kp := by simp only [kp]; omega
 simp [h1, h2]
theorem ko9 {n : Nat} (h : n ≤ 1000000) : growOk Pg n T.kbf 1 = true := by
 unfold growOk
 rw [kl4, krg]
 have h1 : n * 24 ≤ kp := by simp only [kp]; omega
 have h2 : n ≤ kp := by simp only [kp]; omega
 simp [h1, h2]
theorem kne {h : AH} {S : Fp} {s : Sl} {xs : List Nd} (n : Sq Ef.nd h S s xs) (hl : xs.length ≤ 1000000) : Runs (go (.fn F.khj [s.v]) h) fun v h' => ∃ (s' : Sl) (i : Option Nat), v = s'.v ∧ GF Ef.nd T.ko h' Fp.no s' i xs ∧ Grow h h' ∧ LeO h.blks.size i := by
 rw [krz]
 exact (Runs.clone (P := Pg) (elem := T.ko) n kg4 (kr6 hl)).imp fun v h' ⟨s', i, e, v', g, l⟩ => ⟨s', i, e, v'.nd, g, l⟩
theorem kkr {h : AH} {n : Nat} (hn : n ≤ 1000000) : ∃ (s : Sl) (h' : AH), kcj (n : Int) (n : Int) T.int (Pg.bytesOf T.int) [.int .i64 0] h = some (s, h') ∧ GF EI T.int h' Fp.no s (some h.blks.size) (List.replicate n 0) ∧ Grow h h' := by
 rw [kiz rfl rfl (by rw [kjx]; omega) (by omega), kip]
 refine ⟨_, _, rfl, ⟨by simp; omega, Fp.not_no, rfl, by simp, List.replicate n [.int .i64 0], T.int, ?_, .inl rfl, ?_⟩, Grow.push h _⟩
 ·have : (List.replicate n [AV.int .i64 0]).flatten = List.replicate n (AV.int .i64 0) := by
   clear hn
   induction n with
   | zero => rfl
   | succ n ih => rw [List.replicate_succ, List.flatten_cons, ih, List.replicate_succ]; rfl
  rw [this]
  exact AH.has_push h _ T.int
 ·clear hn
  induction n with
  | zero => exact .nil
  | succ n ih => exact .cons rfl ih
section
variable {h0 : AH} {S : Fp} {s s1 s2 s3 : Sl} {m : List (List Nd)} {t : Tb}
theorem klv {h : AH} (x : Nd) {a b : Nat} {parties : Int} {e1 e2 : TypeId} (B1 : h.has a [.int .i64 parties] e1) (B2 : h.has b [s1.v, s2.v, s3.v] e2) (n : TabAt h S s1 s2 s3 t) : Runs (go (.fn F.ky [.agg x.cells, .ptr (some (.new a 0)), .ptr (some (.new b 0))]) h) fun v h' => v = .bool (oddN parties t.cols.length x) ∧ Grow h h' := by
 show Runs (go (.fn F.ky [.agg [.bool x.leaf, .int .i64 x.weight, .int .i64 x.party, .int .i64 x.feature, .int .i64 x.cut, .int .i64 x.left, .int .i64 x.right], .ptr (some (.new a 0)), .ptr (some (.new b 0))]) h) _
 rw [kox]
 refine Runs.new fun h2 b2 g2 => ?_
 have B1 := g2.has B1
 have B2 := g2.has B2
 have l := n.cols.len
 unfold oddN
 refine Runs.step (b2.rd 0 rfl rfl) (Runs.cond (fun c => ?_) (fun c => Runs.ret ⟨by rw [c]; rfl, g2⟩))
 refine Runs.step (b2.rd 2 rfl (kb _ _)) (Runs.step rfl (Runs.step (B1.rd0 rfl (kb _ _)) (Runs.cond (fun c2 => Runs.ret ⟨by rw [c, c2]; rfl, g2⟩) (fun c2 => ?_))))
 refine Runs.step (b2.rd 2 rfl (kb _ _)) (Runs.cond (fun c3 => ?_) (fun c3 => Runs.ret ⟨by rw [c, c2, c3]; rfl, g2⟩))
 refine Runs.step (b2.rd 3 rfl (kb _ _)) (Runs.step rfl (Runs.step (B2.rd 2 rfl (asSl_v _)) (Runs.ret ⟨by rw [c, c2, c3, l]; rfl, g2⟩)))
theorem krj {l : List Nd} {u : Sl} (nl : Sq Ef.nd h0 S u l) {S2 : Fp} {a b : Nat} {parties : Int} {e1 e2 : TypeId} (B1 : h0.has a [.int .i64 parties] e1) (B2 : h0.has b [s1.v, s2.v, s3.v] e2) (n : TabAt h0 S2 s1 s2 s3 t) :
  Runs (go (.fn F.kf6 [u.v, .func (.func F.ky) [] [.ptr (some (.new a 0)), .ptr (some (.new b 0))]]) h0) fun v h' => v = .bool (l.any (oddN parties t.cols.length)) ∧ Grow h0 h' := by
 rw [knk]
 refine Runs.contains (xs := l) ?_
 rw [krx, nl.len]
 refine kdt (n := l.length) (G := fun z h => go (.pt F.kdc Td.kfx [(0, u.v), (1, .func (.func F.ky) [] [.ptr (some (.new a 0)), .ptr (some (.new b 0))]), (7, .int .i64 (l.length : Int)), (8, .int .i64 z)]) h) (fun i h P hi g hT hF => ?_) (fun h g => ?_) l.length 0 (by omega) (Grow.refl h0) (fun j hj => by omega)
 ·obtain ⟨r, e, f0, f1, f2, f3, f4, f5, f6⟩ := (nl.grow g).nd hi
  rw [List.getElem?_eq_getElem hi] at hT hF
  simp only [Option.any_some] at hT hF
  show Runs (go _ _) _
  rw [khw]
  refine Runs.ifT (decide_eq_true (by omega)) (Runs.step e (Runs.step f0 (Runs.step f1 (Runs.step f2 (Runs.step f3 (Runs.step f4 (Runs.step f5 (Runs.step f6 ?_))))))))
  refine (klv l[i] (g.has B1) (g.has B2) (n.grow g)).call fun v h' ⟨ev, g'⟩ => ?_
  subst ev
  refine Runs.step (seen rfl) ?_
  rw [ki (by have := nl.short; omega)]
  exact Runs.cond (fun c => Runs.ret (hT _ (g.trans g') c)) fun c => hF _ (g.trans g') c
 ·rw [khw, condF (decide_eq_false (by omega))]
def NewP (ty : TypeId) (h : AH) (S0 : Fp) (m : List (List Nd)) (parties : Int) (t : Tb) (v : AV) (h' : AH) : Prop :=
 Grow h h' ∧ ((newE m parties t ≠ 0 ∧ v = .tup [.ptr none, .int .i64 (newE m parties t)]) ∨
 (newE m parties t = 0 ∧ ∃ (i j : Nat) (S : Fp), v = .tup [.ptr (some (.new i 0)), .int .i64 0] ∧ WalkAt ty h' S i j (Wk.init m t).go ∧ (Wk.init m t).Ok ∧ h.blks.size ≤ i ∧ h.blks.size ≤ j ∧ i < h'.blks.size ∧ j < h'.blks.size ∧ ∀ k, S k → k < h'.blks.size ∧ (S0 k ∨ h.blks.size ≤ k)))
theorem kn5 {parties : Int} (hm : modR m = true) (ht : tabR t = true) (hp : ¬ (parties < 1 ∨ parties > 16)) {hb : AH} (g0 : Grow h0 hb) (n : Sq EM h0 S s m) (nt : TabAt h0 S s1 s2 s3 t) (hS : ∀ k, S k → k < h0.blks.size) {a b i j : Nat} (hi : h0.blks.size ≤ i) (hib : hb.blks.size = i + 1) (hj : h0.blks.size ≤ j) (hjb : j < i) (hai : a ≠ i) (hbi : b ≠ i) (B1 : hb.has a [.int .i64 parties] T.int) (B2 : hb.has b [s1.v, s2.v, s3.v] T.k8) {s7 : Sl} (v7 : GF EI T.int hb Fp.no s7 (some j) (List.replicate t.ids.length 0)) :
  ∀ (k z : Nat), z + k = m.length → ∀ {h : AH} {s0 : Sl} {oi : Option Nat} {S0 : Fp}, Md (fun x => x = i) hb h → h.has i (Wk.cells (Wk.init m t) s0 s1 s2 s3 s7) T.kx → GF EM T.kbf h S0 s0 oi (m.take z) → (∀ x, S0 x → i < x ∧ x < h.blks.size) → (∀ x, oi = some x → i < x) → ((m.take z).any fun l => l.any (oddN parties t.cols.length)) = false →
  Runs (go (.pt F.kcn Td.ke7 [(8, .func (.func F.ky) [] [.ptr (some (.new a 0)), .ptr (some (.new b 0))]), (9, .ptr (some (.new i 0))), (37, s.v), (38, .int .i64 (m.length : Int)), (39, .int .i64 (z : Int))]) h) (NewP T.kx h0 S m parties t) := by
 have h16 := kd8 hm
 have up : ∀ {h : AH}, Md (fun x => x = i) hb h → Grow h0 h := fun {h} q => g0.thenM q |>.grow fun x hx e => by subst e; omega
 intro k
 induction k with
 | zero =>
  intro z hz h s0 oi S0 md B v hS0 hoi ha
  have hz : z = m.length := by omega
  subst hz
  rw [List.take_length] at v ha
  have g := up md
  rw [kh1]
  refine Runs.ifF (decide_eq_false (by omega)) ?_
  have ok := Wk.init_ok hm ht ha
  have W : WalkAt T.kx h (Fp.or S (Fp.or (Fp.opt oi) S0)) i j (Wk.init m t) := by
   refine ⟨s0, s1, s2, s3, s7, B, v.sq.mono fun _ x => .inr x, ⟨(nt.ids.grow g).mono fun _ x => .inl x, (nt.bins.grow g).mono fun _ x => .inl x, (nt.cols.grow g).mono fun _ x => .inl x⟩, GF.md md Dis.no.symm v7 fun k e => by cases e; omega, fun x => ?_, fun x => ?_, by omega⟩
   ·rcases x with x | x | x
    ·have := hS _ x; omega
    ·have := hoi _ x; omega
    ·have := hS0 _ x; omega
   ·rcases x with x | x | x
    ·have := hS _ x; omega
    ·have := hoi _ x; omega
    ·have := hS0 _ x; omega
  rw [kia]
  refine (kjf _ W ok (Nat.le_refl _)).call fun _ h1 ⟨e, W1, m1⟩ => ?_
  subst e
  have he : newE m parties t = 0 := by
   unfold newE
   rw [if_neg (by rw [hm]; simpa using hp), if_neg (by rw [ht]; simp), ha, if_neg (by simp)]
  have sz := m1.size
  have s1' := md.size
  refine Runs.step rfl (Runs.ret ⟨(g.md (fun x => x = i ∨ x = j)).trans m1 |>.grow fun x hx e => by rcases e with rfl | rfl <;> omega, .inr ⟨he, i, j, _, rfl, W1, ok, hi, hj, by dsimp only; omega, by dsimp only; omega, fun x hx => ?_⟩⟩)
  dsimp only
  rcases hx with hx | hx | hx
  ·have := hS _ hx; have := g.size; exact ⟨by omega, .inl hx⟩
  ·have := v.lt
   have hx : oi = some x := hx
   have h2 := hoi x hx
   rw [hx] at this
   have this : x < h.blks.size := this
   exact ⟨by omega, .inr (by omega)⟩
  ·have := hS0 _ hx; exact ⟨by omega, .inr (by omega)⟩
 | succ k ih =>
  intro z hz h s0 oi S0 md B v hS0 hoi ha
  have hlt : z < m.length := by omega
  have g := up md
  obtain ⟨r, s', e1, -, e2, nl⟩ := (n.grow g).sl hlt
  rw [kh1]
  refine Runs.ifT (decide_eq_true (by omega)) (Runs.step e1 (Runs.step e2 ?_))
  refine Runs.new fun h1 b1 g1 => Runs.puts b1 rfl fun h2 b2 u2 => ?_
  have g2 : Grow h h2 := g1.updr (Nat.le_refl _) u2
  refine Runs.step (b2.rd 0 rfl (asSl_v _)) ?_
  have a2 := g2.has (md.has B1 (by omega))
  have b2' := g2.has (md.has B2 (by omega))
  refine (krj (nl.grow g2) a2 b2' (nt.grow (g.trans g2))).call fun v3 h3 ⟨e, g3⟩ => ?_
  subst e
  have g23 := g2.trans g3
  have ht' : m.take (z + 1) = m.take z ++ [m[z]] := List.take_succ_eq_append_getElem hlt
  refine Runs.step (seen rfl) (Runs.cond (fun c => ?_) (fun c => ?_))
  ·have hany : (m.any fun l => l.any (oddN parties t.cols.length)) = true := by
    rw [List.any_eq_true]
    exact ⟨m[z], List.getElem_mem hlt, c⟩
   have he : newE m parties t = 1 := by
    unfold newE
    rw [if_neg (by rw [hm]; simpa using hp), if_neg (by rw [ht]; simp), if_pos hany]
   exact Runs.ret ⟨g.trans g23, .inl ⟨by rw [he]; decide, by rw [he]⟩⟩
  have B3 := g23.has B
  refine Runs.step (B3.rd 0 rfl (asSl_v _)) (Runs.step ((g3.has b2).rd 0 rfl (asSl_v _)) ?_)
  obtain ⟨h63a, h63, -⟩ := kdi hm hlt
  refine (kne (nl.grow g23) (by omega)).call fun v4 h4 ⟨s4, o4, e, v4, g4, l4⟩ => ?_
  subst e
  refine Runs.step (seen (asSl_v _)) (Runs.when (g4.same B3 0 1) ?_)
  refine Runs.new fun h5 b5 g5 => Runs.when (g5.same (g4.has B3) 0 1) ?_
  have g45 := g4.trans g5
  have G := g23.trans g45
  refine Runs.step (kpx (n := 1) b5 (by rw [kg8]; rfl)) ?_
  have hsz := md.size
  have hi3 : i < h3.blks.size := by have := g23.size; omega
  have o4i : ∀ x, o4 = some x → h3.blks.size ≤ x := fun x hx => by rw [hx] at l4; exact l4
  have vlt := v.lt
  obtain ⟨s6, h6, e6, v6, u6⟩ := (v.grow G).push (P := Pg) (T := Fp.opt o4) (cs := [s4.v]) (x := m[z]) ⟨s4, rfl, ((v4.grow g5).sq).mono fun x hx => hx.elim id False.elim⟩ (by
   cases oi with
   | none => trivial
   | some x =>
    intro hx
    have h1 := o4i x hx
    have h2 : x < h.blks.size := vlt
    have := g23.size
    omega) (ko9 (by rw [List.length_take]; omega))
  refine Runs.step e6 (Runs.step (asSl_v _) ?_)
  have u6m : Md (fun x => i < x) h5 h6 := UpdO.md u6 hoi
  have B6 := u6m.has (G.has B) (Nat.lt_irrefl _)
  refine Runs.putAt B6 (cs' := Wk.cells (Wk.init m t) s6 s1 s2 s3 s7) (by simp) (by simp) fun h7 b7 u7 => ?_
  have hlt5 : i < h5.blks.size := by have := g45.size; omega
  have md7 : Md (fun x => x = i) hb h7 := ((md.thenG G).next u6m fun x hx hx2 => by
   have hx2 : i < x := hx2
   omega).trans (u7.md rfl)
  have sz5 := g45.size
  have sz3 := g23.size
  have sz6 := u6m.size
  have sz7 := u7.size
  dsimp only at sz7
  rw [ki (by omega)]
  have nS : ∀ x, (Fp.or S0 (Fp.opt o4) x ∧ x < h5.blks.size) → i < x := fun x hx => by
   rcases hx.1 with y | y
   ·exact (hS0 x y).1
   ·have := o4i x y
    omega
  refine ih (z + 1) (by omega) md7 b7 (S0 := fun x => Fp.or S0 (Fp.opt o4) x ∧ x < h5.blks.size) (oi := some h5.blks.size) ?_ (fun x hx => ⟨nS x hx, by have := hx.2; omega⟩) (fun x hx => by cases hx; omega) ?_
  ·rw [ht']
   exact GF.updo v6 (i := some i) (fun hx => Nat.lt_irrefl _ (nS i hx)) (show h5.blks.size ≠ i by omega) u7
  ·rw [ht', List.any_append, ha]
   simp [c]
end
end Go.Ab

/- squeezed -/
set_option linter.unusedVariables false
set_option linter.unusedSimpArgs false
set_option maxRecDepth 10000
namespace Go.Ab
open Go.Proofs
theorem Runs.new1 {P : AV → AH → Prop} {h : AH} {cs : List AV} {e : TypeId} {K : Ref → AH → Option (AV × AH)} (H : ∀ h', h'.has h.blks.size cs e → Grow h h' → h'.blks.size = h.blks.size + 1 → Runs (K (.new h.blks.size 0) h') P) : Runs (newK h (.cells cs e) K) P :=
 H _ (AH.has_push h cs e) (Grow.push h _) (AH.push_size h _)
section
variable {h0 : AH} {S : Fp} {s s1 s2 s3 : Sl} {m : List (List Nd)} {t : Tb}
theorem kix (n : Sq EM h0 S s m) (nt : TabAt h0 S s1 s2 s3 t) (hS : ∀ k, S k → k < h0.blks.size) (parties : Int) : Runs (go (.fn F.kcn [.agg [s.v], .int .i64 parties, .agg [s1.v, s2.v, s3.v]]) h0) (NewP T.kx h0 S m parties t) := by
 rw [kls]
 refine Runs.new fun h1 b1 g1 => Runs.new fun h2 b2 g2 => Runs.new fun h3 b3 g3 => ?_
 have B1 := (g2.trans g3).has b1
 have B2 := g3.has b2
 have G3 := g1.trans (g2.trans g3)
 refine Runs.step (B1.rd 0 rfl (asSl_v _)) ?_
 refine (klj (n.grow G3)).call fun _ h4 ⟨e, g4⟩ => ?_
 subst e
 have G4 := G3.trans g4
 refine Runs.step (seen rfl) (Runs.cond (fun c => ?_) (fun c => ?_))
 ·have hm : modR m = false := by simpa using c
  have he : newE m parties t = 1 := by unfold newE; rw [if_pos (.inl hm)]
  exact Runs.ret ⟨G4, .inl ⟨by rw [he]; decide, by rw [he]⟩⟩
 have hm : modR m = true := by simpa using c
 refine Runs.step ((g4.has B2).rd0 rfl (kb _ _)) (Runs.cond (fun c2 => ?_) (fun c2 => ?_))
 ·have he : newE m parties t = 1 := by unfold newE; rw [if_pos (.inr (.inl (by simpa using c2)))]
  exact Runs.ret ⟨G4, .inl ⟨by rw [he]; decide, by rw [he]⟩⟩
 refine Runs.step ((g4.has B2).rd0 rfl (kb _ _)) (Runs.cond (fun c3 => ?_) (fun c3 => ?_))
 ·have he : newE m parties t = 1 := by unfold newE; rw [if_pos (.inr (.inr (by simpa using c3)))]
  exact Runs.ret ⟨G4, .inl ⟨by rw [he]; decide, by rw [he]⟩⟩
 have hp : ¬ (parties < 1 ∨ parties > 16) := by simp at c2 c3; omega
 have B3 := g4.has b3
 refine Runs.step (B3.rd 0 rfl (asSl_v _)) (Runs.step (B3.rd 1 rfl (asSl_v _)) (Runs.step (B3.rd 2 rfl (asSl_v _)) ?_))
 refine (kn4 (nt.grow G4)).call fun _ h5 ⟨e, g5⟩ => ?_
 subst e
 have G5 := G4.trans g5
 refine Runs.step (seen rfl) (Runs.cond (fun c => ?_) (fun c => ?_))
 ·have ht : tabR t = false := by simpa using c
  have he : newE m parties t = 20 := by unfold newE; rw [if_neg (by rw [hm]; simpa using hp), if_pos ht]
  exact Runs.ret ⟨G5, .inl ⟨by rw [he]; decide, by rw [he]⟩⟩
 have ht : tabR t = true := by simpa using c
 have B5 := g5.has B3
 have h256 := kd3 ht
 refine Runs.step (B5.rd 0 rfl (asSl_v _)) (Runs.step (B5.rd 1 rfl (asSl_v _)) (Runs.step (B5.rd 2 rfl (asSl_v _)) (Runs.step (B5.rd 0 rfl (asSl_v _)) ?_)))
 rw [nt.ids.len]
 obtain ⟨s7, h6, e6, v6, g6⟩ := kkr (h := h5) (n := t.ids.length) (by omega)
 refine Runs.step e6 (Runs.when (g6.same0 B5 0 3) ?_)
 refine Runs.new1 fun h7 b7 g7 k7 => ?_
 have g37 := (g4.trans g5).trans (g6.trans g7)
 refine Runs.step ((g37.has B1).rd 0 rfl (asSl_v _)) ?_
 rw [n.len]
 have z1 := b1.lt
 have z2 := b2.lt
 have z3 := b3.lt
 have k1 := g1.size
 have k2 := g2.size
 have k3 := g3.size
 have k4 := g4.size
 have k5 := g5.size
 have k6 : h5.blks.size < h6.blks.size := v6.lt
 dsimp only at z1 z2 z3 k1 k2 k3 k4 k5 k6 k7 ⊢
 exact kn5 hm ht hp (G5.trans (g6.trans g7)) n nt hS (a := h1.blks.size) (b := h2.blks.size) (i := h6.blks.size) (j := h5.blks.size) (by omega) (by omega) (by omega) (by omega) (by omega) (by omega) (g37.has B2) ((g5.trans (g6.trans g7)).has B3) (v6.grow g7) m.length 0 (by omega) (S0 := Fp.no) (oi := none) (Md.refl _ _) b7 (GF.none _ _ _ _) (fun x hx => hx.elim) (fun x hx => by cases hx) rfl
theorem kle {parties : Int} {P : AV → AH → Prop} (hl16 : m.length ≤ 16) (n : Sq EM h0 S s m) (nt : TabAt h0 S s1 s2 s3 t) {a b : Nat} (B1 : h0.has a [s.v] T.kbc) (B2 : h0.has b [s1.v, s2.v, s3.v] T.k8) {z : Nat} (hz : z < m.length) (hl : m[z].length ≤ 63)
  (bad : ∀ h', Grow h0 h' → m[z].any (oddN parties t.cols.length) = true → P (.tup [.ptr none, .int .i64 1]) h') (next : ∀ h', Grow h0 h' → m[z].any (oddN parties t.cols.length) = false → Runs (go (.pt F.kbb Td.kd7 [(1, .int .i64 parties), (3, .ptr (some (.new a 0))), (5, .ptr (some (.new b 0))), (10, .int .i64 ((z + 1 : Nat) : Int))]) h') P) :
  ∀ (k i : Nat), i + k = m[z].length → ∀ {h : AH}, Grow h0 h → (∀ q (hq : q < m[z].length), q < i → oddN parties t.cols.length m[z][q] = false) →
  Runs (go (.pt F.kbb Td.kc0 [(1, .int .i64 parties), (3, .ptr (some (.new a 0))), (5, .ptr (some (.new b 0))), (10, .int .i64 (z : Int)), (11, .int .i64 (i : Int))]) h) P := by
 intro k
 induction k with
 | zero =>
  intro i hi h g hp
  obtain ⟨r, s', e1, -, e2, nl⟩ := (n.grow g).sl hz
  rw [kku]
  refine Runs.step ((g.has B1).rd 0 rfl (asSl_v _)) (Runs.step e1 (Runs.step e2 ?_))
  rw [nl.len]
  refine Runs.ifF (decide_eq_false (by omega)) ?_
  rw [ki (by omega)]
  refine next h g ?_
  rw [List.any_eq_false]
  intro x hx
  obtain ⟨q, hq, rfl⟩ := List.getElem_of_mem hx
  rw [hp q hq (by omega)]
  simp
 | succ k ih =>
  intro i hi h g hp
  have hlt : i < m[z].length := by omega
  obtain ⟨r, s', e1, -, e2, nl⟩ := (n.grow g).sl hz
  obtain ⟨r2, e3, f0, f1, f2, f3, f4, f5, f6⟩ := nl.nd hlt
  rw [kku]
  refine Runs.step ((g.has B1).rd 0 rfl (asSl_v _)) (Runs.step e1 (Runs.step e2 ?_))
  rw [nl.len]
  refine Runs.ifT (decide_eq_true (by omega)) (Runs.step ((g.has B1).rd 0 rfl (asSl_v _)) (Runs.step e1 (Runs.step e2 (Runs.step e3 ?_))))
  refine Runs.step f0 (Runs.step f1 (Runs.step f2 (Runs.step f3 (Runs.step f4 (Runs.step f5 (Runs.step f6 ?_))))))
  refine Runs.new fun h1 b1 g1 => Runs.puts b1 rfl fun h2 b2 u2 => ?_
  have G : Grow h0 h2 := g.trans (g1.updr (Nat.le_refl _) u2)
  rw [ki (by omega)]
  have yes : oddN parties t.cols.length m[z][i] = true → P (.tup [.ptr none, .int .i64 1]) h2 := fun e => bad _ G (by rw [List.any_eq_true]; exact ⟨_, List.getElem_mem hlt, e⟩)
  have no : oddN parties t.cols.length m[z][i] = false → Runs (go (.pt F.kbb Td.kc0 [(1, .int .i64 parties), (3, .ptr (some (.new a 0))), (5, .ptr (some (.new b 0))), (10, .int .i64 (z : Int)), (11, .int .i64 ((i + 1 : Nat) : Int))]) h2) P := fun e => ih (i + 1) (by omega) G fun q hq hqi => by
   by_cases h1 : q = i
   ·subst h1; exact e
   ·exact hp q hq (by omega)
  unfold oddN at yes no
  refine Runs.step (b2.rd 0 rfl rfl) (Runs.cond (fun c => ?_) (fun c => no (by rw [c]; rfl)))
  refine Runs.step (b2.rd 2 rfl (kb _ _)) (Runs.cond (fun c2 => Runs.ret (yes (by rw [c, c2]; rfl))) (fun c2 => ?_))
  refine Runs.step (b2.rd 2 rfl (kb _ _)) (Runs.cond (fun c3 => ?_) (fun c3 => no (by rw [c, c2, c3]; rfl)))
  refine Runs.step (b2.rd 3 rfl (kb _ _)) (Runs.step ((G.has B2).rd 2 rfl (asSl_v _)) ?_)
  rw [nt.cols.len]
  exact Runs.cond (fun c4 => Runs.ret (yes (by rw [c, c2, c3, c4]; rfl))) (fun c4 => no (by rw [c, c2, c3, c4]; rfl))
theorem kol {parties : Int} (hm : modR m = true) (ht : tabR t = true) (hp : ¬ (parties < 1 ∨ parties > 16)) {hx : AH} (g0 : Grow hx h0) (n : Sq EM h0 S s m) (nt : TabAt h0 S s1 s2 s3 t) (hS : ∀ k, S k → k < h0.blks.size) {a b : Nat} (B1 : h0.has a [s.v] T.kbc) (B2 : h0.has b [s1.v, s2.v, s3.v] T.k8) :
  ∀ (k z : Nat), z + k = m.length → ∀ {h : AH}, Grow h0 h → ((m.take z).any fun l => l.any (oddN parties t.cols.length)) = false →
  Runs (go (.pt F.kbb Td.kd7 [(1, .int .i64 parties), (3, .ptr (some (.new a 0))), (5, .ptr (some (.new b 0))), (10, .int .i64 (z : Int))]) h) (NewP T.kbe hx S m parties t) := by
 have h16 := kd8 hm
 have h256 := kd3 ht
 intro k
 induction k with
 | zero =>
  intro z hz h g ha
  have hz : z = m.length := by omega
  subst hz
  rw [List.take_length] at ha
  have b1 := g.has B1
  have b2 := g.has B2
  rw [kkj]
  refine Runs.step (b1.rd 0 rfl (asSl_v _)) ?_
  rw [n.len]
  refine Runs.ifF (decide_eq_false (by omega)) (Runs.step (b1.rd 0 rfl (asSl_v _)) (Runs.step (b2.rd 0 rfl (asSl_v _)) (Runs.step (b2.rd 1 rfl (asSl_v _)) (Runs.step (b2.rd 2 rfl (asSl_v _)) (Runs.step (b2.rd 0 rfl (asSl_v _)) ?_)))))
  rw [nt.ids.len]
  obtain ⟨s7, h6, e6, v6, g6⟩ := kkr (h := h) (n := t.ids.length) (by omega)
  refine Runs.step e6 (Runs.when (g6.same0 b2 0 3) (Runs.when (g6.same0 b1 0 1) ?_))
  refine Runs.new1 fun h7 b7 g7 k7 => ?_
  have ok := Wk.init_ok hm ht ha
  have k6 : h.blks.size < h6.blks.size := v6.lt
  have k1 := g.size
  have G := g.trans (g6.trans g7)
  dsimp only at k6 k7 ⊢
  have W : WalkAt T.kbe h7 S h6.blks.size h.blks.size (Wk.init m t) := ⟨s, s1, s2, s3, s7, b7, n.grow G, nt.grow G, v6.grow g7, fun x => by have := hS _ x; omega, fun x => by have := hS _ x; omega, by omega⟩
  rw [kjk]
  refine (kkp _ W ok (Nat.le_refl _)).call fun _ h8 ⟨e, W1, m1⟩ => ?_
  subst e
  have he : newE m parties t = 0 := by
   unfold newE
   rw [if_neg (by rw [hm]; simpa using hp), if_neg (by rw [ht]; simp), ha, if_neg (by simp)]
  have sz := m1.size
  have k0 := g0.size
  refine Runs.step rfl (Runs.ret ⟨((g0.trans G).md (fun x => x = h6.blks.size ∨ x = h.blks.size)).trans m1 |>.grow fun x hx e => by rcases e with rfl | rfl <;> omega, .inr ⟨he, _, _, _, rfl, W1, ok, by omega, by omega, by dsimp only; omega, by dsimp only; omega, fun x hx => ?_⟩⟩)
  have := hS _ hx
  dsimp only
  exact ⟨by omega, .inl hx⟩
 | succ k ih =>
  intro z hz h g ha
  have hlt : z < m.length := by omega
  have b1 := g.has B1
  rw [kkj]
  refine Runs.step (b1.rd 0 rfl (asSl_v _)) ?_
  rw [n.len]
  refine Runs.ifT (decide_eq_true (by omega)) ?_
  have ht' : m.take (z + 1) = m.take z ++ [m[z]] := List.take_succ_eq_append_getElem hlt
  refine kle h16 n nt B1 B2 hlt (kdi hm hlt).2.1 (fun h' g' c => ?_) (fun h' g' c => ih (z + 1) (by omega) g' (by rw [ht', List.any_append, ha]; simp [c])) m[z].length 0 (by omega) g fun q hq h => by omega
  have hany : (m.any fun l => l.any (oddN parties t.cols.length)) = true := by
   rw [List.any_eq_true]
   exact ⟨m[z], List.getElem_mem hlt, c⟩
  have he : newE m parties t = 1 := by
   unfold newE
   rw [if_neg (by rw [hm]; simpa using hp), if_neg (by rw [ht]; simp), if_pos hany]
  exact ⟨g0.trans g', .inl ⟨by rw [he]; decide, by rw [he]⟩⟩
theorem klu (n : Sq EM h0 S s m) (nt : TabAt h0 S s1 s2 s3 t) (hS : ∀ k, S k → k < h0.blks.size) (parties : Int) : Runs (go (.fn F.kbb [.agg [s.v], .int .i64 parties, .agg [s1.v, s2.v, s3.v]]) h0) (NewP T.kbe h0 S m parties t) := by
 rw [koc]
 refine Runs.new fun h1 b1 g1 => Runs.new fun h2 b2 g2 => ?_
 have B1 := g2.has b1
 have G2 := g1.trans g2
 refine Runs.step (B1.rd 0 rfl (asSl_v _)) ?_
 refine (koj (n.grow G2)).call fun _ h4 ⟨e, g4⟩ => ?_
 subst e
 have G4 := G2.trans g4
 refine Runs.step (seen rfl) (Runs.cond (fun c => ?_) (fun c => ?_))
 ·have hm : modR m = false := by simpa using c
  have he : newE m parties t = 1 := by unfold newE; rw [if_pos (.inl hm)]
  exact Runs.ret ⟨G4, .inl ⟨by rw [he]; decide, by rw [he]⟩⟩
 have hm : modR m = true := by simpa using c
 refine Runs.cond (fun c2 => ?_) (fun c2 => ?_)
 ·have he : newE m parties t = 1 := by unfold newE; rw [if_pos (.inr (.inl (by simpa using c2)))]
  exact Runs.ret ⟨G4, .inl ⟨by rw [he]; decide, by rw [he]⟩⟩
 refine Runs.cond (fun c3 => ?_) (fun c3 => ?_)
 ·have he : newE m parties t = 1 := by unfold newE; rw [if_pos (.inr (.inr (by simpa using c3)))]
  exact Runs.ret ⟨G4, .inl ⟨by rw [he]; decide, by rw [he]⟩⟩
 have hp : ¬ (parties < 1 ∨ parties > 16) := by simp at c2 c3; omega
 have B3 := g4.has b2
 refine Runs.step (B3.rd 0 rfl (asSl_v _)) (Runs.step (B3.rd 1 rfl (asSl_v _)) (Runs.step (B3.rd 2 rfl (asSl_v _)) ?_))
 refine (kmr (nt.grow G4)).call fun _ h5 ⟨e, g5⟩ => ?_
 subst e
 have G5 := G4.trans g5
 refine Runs.step (seen rfl) (Runs.cond (fun c => ?_) (fun c => ?_))
 ·have ht : tabR t = false := by simpa using c
  have he : newE m parties t = 20 := by unfold newE; rw [if_neg (by rw [hm]; simpa using hp), if_pos ht]
  exact Runs.ret ⟨G5, .inl ⟨by rw [he]; decide, by rw [he]⟩⟩
 have ht : tabR t = true := by simpa using c
 exact kol hm ht hp G5 (n.grow G5) (nt.grow G5) (fun k hk => by have := hS k hk; have := G5.size; omega) ((g4.trans g5).has B1) (g5.has B3) m.length 0 (by omega) (Grow.refl _) rfl
end
end Go.Ab

/- squeezed -/
set_option linter.unusedVariables false
set_option linter.unusedSimpArgs false
set_option maxRecDepth 10000
namespace Go.Ab
open Go.Proofs
section
variable {h0 : AH} {S S' : Fp} {s t : Sl}
theorem kr7 {xs ys : List Int} (n : Sq EI h0 S s xs) (m : Sq EI h0 S' t ys) (hl : xs.length = ys.length) : ∀ (k i : Nat), i + k = xs.length →
  go (.pt F.kb1 Td.kfb [(0, s.v), (1, t.v), (5, .int .i64 (i : Int))]) h0 = some (.bool (decide (xs.drop i = ys.drop i)), h0) := by
 intro k
 induction k with
 | zero =>
  intro i hi
  rw [ki7, n.len, condF (decide_eq_false (by omega)), List.drop_of_length_le (by omega), List.drop_of_length_le (by omega)]
  rfl
 | succ k ih =>
  intro i hi
  have h1 : i < xs.length := by omega
  have h2 : i < ys.length := by omega
  obtain ⟨r, e1, e2⟩ := n.int h1
  obtain ⟨q, e3, e4⟩ := m.int h2
  rw [ki7, e1, e3, n.len, condT (decide_eq_true (by omega))]
  simp only [Option.bind_some, e2, e4]
  rw [ki (by have := n.short; omega), ih (i + 1) (by omega), List.drop_eq_getElem_cons h1, List.drop_eq_getElem_cons h2]
  by_cases c : xs[i] = ys[i]
  ·rw [condF (by rw [decide_eq_true c]; rfl), decide_eq_decide.2 (show xs.drop (i + 1) = ys.drop (i + 1) ↔ xs[i] :: xs.drop (i + 1) = ys[i] :: ys.drop (i + 1) from ⟨fun e => by rw [c, e], fun e => (List.cons.inj e).2⟩)]
  ·rw [condT (by rw [decide_eq_false c]; rfl), decide_eq_false (fun e => c (List.cons.inj e).1)]
theorem ki4 {xs ys : List Int} (n : Sq EI h0 S s xs) (m : Sq EI h0 S' t ys) : go (.fn F.kb1 [s.v, t.v]) h0 = some (.bool (decide (xs = ys)), h0) := by
 rw [klz, n.len, m.len]
 by_cases c : xs.length = ys.length
 ·rw [condF (by rw [decide_eq_true (by omega)]; rfl)]
  exact kr7 n m c xs.length 0 (by omega)
 ·rw [condT (by rw [decide_eq_false (by omega)]; rfl), decide_eq_false (fun e => c (by rw [e]))]
theorem kmq : go (.fn F.kcy [nilS.v, nilS.v]) h0 = some (.bool true, h0) := by
 rw [kpy]
 show go (.pt F.kcy Td.kfh [(0, nilS.v), (1, nilS.v), (5, .int .i64 0)]) h0 = _
 rw [ksh]
 rfl
end
theorem kdv {h : AH} {cs : List AV} (a : ArgT Pg h T.kcc cs) : ∃ (s : Sl) (xs : List Int), cs = [s.v] ∧ Sq EI h Fp.no s xs := kqd Fp.no km3 kbk kdw a
theorem tab_of {h : AH} {x : AV} (a : ArgV Pg h T.k8 x) : ∃ (s1 s2 s3 : Sl) (t : Tb), x = .agg [s1.v, s2.v, s3.v] ∧ TabAt h Fp.no s1 s2 s3 t := by
 unfold ArgV at a
 rw [kh7] at a
 obtain ⟨cs, rfl, t⟩ := a
 obtain ⟨hl, hf⟩ := t.struct kh7
 rw [kkw] at hl
 match cs, hl with
 | [x0, x1, x2], _ =>
  simp [kgc, kpj] at hf
  obtain ⟨h0, h1, h2⟩ := hf
  obtain ⟨s1, xs, e0, n0⟩ := kdv h0
  obtain ⟨s2, ys, e1, n1⟩ := kdv h1
  obtain ⟨s3, zs, e2, n2⟩ := Sq.of_arg (E := Ef.seq EI) (S := Fp.no) kqn kgc (fun es t => by
   obtain ⟨s, l, e, n⟩ := kdv t
   exact ⟨l, s, e, n⟩) h2
  cases e0; cases e1; cases e2
  exact ⟨s1, s2, s3, ⟨xs, ys, zs⟩, rfl, n0, n1, n2⟩
theorem knj {h : AH} {cs : List AV} (a : ArgT Pg h T.ko cs) : ∃ x : Nd, cs = x.cells := by
 obtain ⟨hl, hf⟩ := a.struct kmu
 rw [kg4] at hl
 match cs, hl with
 | [x0, x1, x2, x3, x4, x5, x6], _ =>
  simp [kdw, kjp] at hf
  obtain ⟨h0, h1, h2, h3, h4, h5, h6⟩ := hf
  obtain ⟨b, e0⟩ := h0.bool kkt
  obtain ⟨y1, e1, _⟩ := h1.int kbk
  obtain ⟨y2, e2, _⟩ := h2.int kbk
  obtain ⟨y3, e3, _⟩ := h3.int kbk
  obtain ⟨y4, e4, _⟩ := h4.int kbk
  obtain ⟨y5, e5, _⟩ := h5.int kbk
  obtain ⟨y6, e6, _⟩ := h6.int kbk
  cases e0; cases e1; cases e2; cases e3; cases e4; cases e5; cases e6
  exact ⟨⟨b, y1, y2, y3, y4, y5, y6⟩, rfl⟩
theorem kn1 {h : AH} {x : AV} (a : ArgV Pg h T.kbc x) : ∃ (s : Sl) (m : List (List Nd)), x = .agg [s.v] ∧ Sq EM h Fp.no s m := by
 unfold ArgV at a
 rw [kjc] at a
 obtain ⟨cs, rfl, t⟩ := a
 obtain ⟨hl, hf⟩ := t.struct kjc
 rw [kl3] at hl
 match cs, hl with
 | [x0], _ =>
  simp [kqk] at hf
  obtain ⟨s, m, e, n⟩ := Sq.of_arg (E := EM) (S := Fp.no) ksd kg8 (fun es t => by
   obtain ⟨hl, hf⟩ := t.struct kk2
   rw [kg8] at hl
   match es, hl with
   | [y0], _ =>
    simp [kk7] at hf
    obtain ⟨s', l, e, n⟩ := Sq.of_arg (E := Ef.nd) (S := Fp.no) kor kg4 (fun es t => knj t) hf
    cases e
    exact ⟨l, s', rfl, n⟩) hf
  cases e
  exact ⟨s, m, rfl, n⟩
theorem krs {h0 : AH} {S : Fp} {s s1 s2 s3 : Sl} {m : List (List Nd)} {t : Tb} (n : Sq EM h0 S s m) {a b : Nat} (B1 : h0.has a [s.v] T.kbc) (B2 : h0.has b [s1.v, s2.v, s3.v] T.k8) : ∀ (k i : Nat), i + k = 20 → ∀ z : Int,
  Runs (go (.pt F.kcp Td.kei [(2, .ptr (some (.new a 0))), (3, .ptr (some (.new b 0))), (5, .int .i64 z), (6, .int .i64 (i : Int))]) h0) fun v h' => (∃ r : Bool, v = .bool r) ∧ h' = h0 := by
 intro k
 induction k with
 | zero =>
  intro i hi z
  rw [kii]
  refine Runs.step (B1.rd 0 rfl (asSl_v _)) (Runs.cond (fun c => Runs.ifF (decide_eq_false (by omega)) ?_) (fun c => ?_))
  all_goals
   repeat' first
    | refine Runs.step (AH.has.rd (by assumption) _ rfl (asSl_v _)) ?_
    | refine Runs.cond (fun k => ?_) (fun k => ?_)
    | exact Runs.ret ⟨⟨_, rfl⟩, rfl⟩
 | succ k ih =>
  intro i hi z
  rw [kii]
  refine Runs.step (B1.rd 0 rfl (asSl_v _)) (Runs.cond (fun c => Runs.ifT (decide_eq_true (by omega)) ?_) (fun c => ?_))
  ·rw [n.len, decide_eq_true_eq] at c
   have hlt : i < m.length := by omega
   obtain ⟨r, s', e1, -, e2, nl⟩ := n.sl hlt
   refine Runs.step (B1.rd 0 rfl (asSl_v _)) (Runs.step e1 (Runs.step e2 ?_))
   rw [ki (by omega)]
   exact ih (i + 1) (by omega) _
  ·repeat' first
    | refine Runs.step (AH.has.rd (by assumption) _ rfl (asSl_v _)) ?_
    | refine Runs.cond (fun k => ?_) (fun k => ?_)
    | exact Runs.ret ⟨⟨_, rfl⟩, rfl⟩
theorem few_is {h0 : AH} {S : Fp} {s s1 s2 s3 : Sl} {m : List (List Nd)} (n : Sq EM h0 S s m) : Runs (go (.fn F.kcp [.agg [s.v], .agg [s1.v, s2.v, s3.v]]) h0) fun v h' => (∃ r : Bool, v = .bool r) ∧ Grow h0 h' := by
 rw [kp9]
 refine Runs.new fun h5 b5 g5 => Runs.new fun h6 b6 g6 => Runs.step (b6.rd 0 rfl (asSl_v _)) ?_
 exact (krs (t := ⟨[], [], []⟩) (n.grow (g5.trans g6)) (g6.has b5) b6 20 0 (by omega) _).imp fun v h' ⟨a, b⟩ => ⟨a, by rw [b]; exact g5.trans g6⟩
def leaf3 : Nd := ⟨true, 3, 0, 0, 0, 0, 0⟩
theorem kp0 {h : AH} : Runs (go (.fn F.kgk []) h) fun v h' => v = .bool true ∧ Grow h h' := by
 rw [kmz]
 refine Runs.new1 fun h1 b1 g1 k1 => Runs.new1 fun h2 b2 g2 k2 => Runs.new1 fun h3 b3 g3 k3 => ?_
 have n0 : Sq Ef.nd h1 (Fp.or (fun j => j = h.blks.size) Fp.no) ⟨some (.new h.blks.size 0), 1, .is 1⟩ [leaf3] := Sq.lit (E := Ef.nd) (rows := [leaf3.cells]) b1 (.cons rfl .nil) rfl
 have n1 : Sq EM h2 (Fp.or (fun j => j = h1.blks.size) (Fp.or (fun j => j = h.blks.size) Fp.no)) ⟨some (.new h1.blks.size 0), 1, .is 1⟩ [[leaf3]] := Sq.lit (E := EM) (rows := [[(⟨some (.new h.blks.size 0), 1, .is 1⟩ : Sl).v]]) b2 (.cons ⟨_, rfl, n0.grow g2⟩ .nil) rfl
 have n2 : Sq EI h3 (Fp.or (fun j => j = h2.blks.size) Fp.no) ⟨some (.new h2.blks.size 0), 2, .is 2⟩ [5, 6] := Sq.lit (E := EI) (rows := [[.int .i64 5], [.int .i64 6]]) b3 (.cons rfl (.cons rfl .nil)) rfl
 have z1 := b1.lt
 have z2 := b2.lt
 have z3 := b3.lt
 have nt : TabAt h3 (fun j => j < h3.blks.size) ⟨some (.new h2.blks.size 0), 2, .is 2⟩ nilS nilS ⟨[5, 6], [], []⟩ := ⟨n2.mono fun j hj => by rcases hj with rfl | hj; exact z3; exact hj.elim, Sq.nil _ _ _, Sq.nil _ _ _⟩
 have nm := (n1.grow g3).mono (T := fun j => j < h3.blks.size) fun j hj => by
  rcases hj with rfl | rfl | hj
  ·omega
  ·omega
  ·exact hj.elim
 refine (kix nm nt (fun k hk => hk) 1).call fun _ h4 ⟨g4, d⟩ => ?_
 have he : newE [[leaf3]] 1 ⟨[5, 6], [], []⟩ = 0 := by decide +kernel
 have hg : (Wk.init [[leaf3]] ⟨[5, 6], [], []⟩).go.sc = [3, 3] := by decide +kernel
 have G := g1.trans (g2.trans g3)
 rcases d with ⟨h1, _⟩ | ⟨_, i, j, S, rfl, W, ok, -⟩
 ·exact absurd he h1
 have ⟨o1, st, e1, e2⟩ := Wk.Ok.on _ ok (Nat.le_refl _)
 refine Runs.step rfl (Runs.step (seen rfl) (Runs.step (seen (kb _ _)) (Runs.ifF rfl (Runs.ifF rfl ?_))))
 refine (kjq W o1 st).call fun _ h5 ⟨s', k, e, v, g5⟩ => ?_
 subst e
 rw [hg] at v
 have hr : decide ((Wk.init [[leaf3]] ⟨[5, 6], [], []⟩).go.row < (Wk.init [[leaf3]] ⟨[5, 6], [], []⟩).go.t.ids.length) = false := by decide +kernel
 rw [hr]
 obtain ⟨r1, f1, f2⟩ := v.sq.int (i := 0) (by decide)
 obtain ⟨r2, f3, f4⟩ := v.sq.int (i := 1) (by decide)
 have hl := v.len
 refine Runs.step rfl (Runs.step (seen (asSl_v _)) (Runs.step (seen rfl) (Runs.ifT rfl ?_)))
 refine Runs.ifT (by rw [hl]; rfl) (Runs.step f1 (Runs.step f2 (Runs.ifT rfl (Runs.step f3 (Runs.step f4 (Runs.ret ⟨rfl, G.trans (g4.trans g5)⟩))))))
end Go.Ab
