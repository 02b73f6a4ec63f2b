/- squeezed -/
import Derived.Test.YthpakkpckmjhjaaGreatDoorU1
import Derived.Test.YthpakkpckmjhjaaGreatDoorPS42

set_option linter.unusedVariables false
set_option linter.unusedSimpArgs false
set_option maxRecDepth 10000
namespace Go.Ab
open Go.Proofs
def idsR (l : List Int) : Bool := decide (l.length ≤ 256) && (!(l.any fun x => decide (x < 0) || decide (x > 1073741824)) && decide l.Nodup)
structure Tb where
 ids : List Int
 bins : List Int
 cols : List (List Int)
def colR (t : Tb) (i : Nat) : Bool := !decide (t.bins.getD i 0 < 2) && !decide (t.bins.getD i 0 > 32) && decide ((t.cols.getD i []).length = t.ids.length) && !((t.cols.getD i []).any fun x => decide (x < 0) || decide (x ≥ t.bins.getD i 0))
def tabR (t : Tb) : Bool := idsR t.ids && !decide (t.cols.length > 16) && decide (t.bins.length = t.cols.length) && (List.range t.cols.length).all (colR t)
structure TabAt (h : AH) (S : Fp) (s1 s2 s3 : Sl) (t : Tb) : Prop where
 ids : Sq EI h S s1 t.ids
 bins : Sq EI h S s2 t.bins
 cols : Sq (Ef.seq EI) h S s3 t.cols
theorem TabAt.md {h h' : AH} {S T : Fp} {s1 s2 s3 : Sl} {t : Tb} (n : TabAt h S s1 s2 s3 t) (m : Md T h h') (d : Dis S T) : TabAt h' S s1 s2 s3 t := ⟨n.ids.md m d, n.bins.md m d, n.cols.md m d⟩
theorem TabAt.grow {h h' : AH} {S : Fp} {s1 s2 s3 : Sl} {t : Tb} (n : TabAt h S s1 s2 s3 t) (g : Grow h h') : TabAt h' S s1 s2 s3 t := ⟨n.ids.grow g, n.bins.grow g, n.cols.grow g⟩
section
variable {h0 : AH} {S : Fp} {s : Sl} {xs : List Int}
theorem kyd (n : Sq EI h0 S s xs) : Runs (go (.fn F.kc2 [s.v, .func (.func F.kc5) [] []]) h0) fun v h' => v = .bool (xs.any fun x => decide (x < 0) || decide (x > 1073741824)) ∧ Grow h0 h' := by
 rw [k7b]
 refine Runs.contains (xs := xs) ?_
 rw [k67, n.len]
 refine kh8 (n := xs.length) (G := fun z h => go (.pt F.ky Td.kby [(0, s.v), (1, .func (.func F.kc5) [] []), (7, .int .i64 (xs.length : Int)), (8, .int .i64 z)]) h) (fun i h P hi g hT hF => ?_) (fun h g => ?_) xs.length 0 (by omega) (Grow.refl h0) (fun j hj => by omega)
 ·obtain ⟨r, e1, e2⟩ := (n.grow g).int hi
  rw [List.getElem?_eq_getElem hi] at hT hF
  simp only [Option.any_some] at hT hF
  show Runs (go _ _) _
  rw [ku1]
  refine Runs.ifT (decide_eq_true (by omega)) (Runs.step e1 (Runs.step e2 ?_))
  have key : go (.fn F.kc5 [.int .i64 xs[i]]) h = some (.bool (decide (xs[i] < 0) || decide (xs[i] > 1073741824)), h) := by
   rw [k3r]
   cases decide (xs[i] < 0) <;> rfl
  refine Runs.step key (Runs.step (seen rfl) ?_)
  rw [kf (by have := n.short; omega)]
  exact Runs.cond (fun c => Runs.ret (hT h g c)) fun c => hF h g c
 ·rw [ku1, condF (decide_eq_false (by omega))]
theorem k2l (n : Sq EI h0 S s xs) (hl : xs.length ≤ 256) {m : Nat} (hm : h0.blks.size ≤ m) : ∀ (k i : Nat), i + k = xs.length → ∀ {h : AH} {l : List (Int × AV)}, Grow h0 h → MapIs h m l → (∀ x, (kvGet l x).isSome = true ↔ x ∈ xs.take i) → l.length ≤ i → (l.length = i ↔ (xs.take i).Nodup) →
  Runs (go (.pt F.kgj Td.klf [(3, .map (some m)), (7, s.v), (8, .int .i64 (xs.length : Int)), (9, .int .i64 (i : Int))]) h) fun v h' => Grow h0 h' ∧ v = .map (some m) ∧ ∃ l, MapIs h' m l ∧ (l.length = xs.length ↔ xs.Nodup) := by
 intro k
 induction k with
 | zero =>
  intro i hi h l g M hk hle hn
  rw [krh]
  refine Runs.ifF (decide_eq_false (by omega)) (Runs.ret ⟨g, rfl, l, M, ?_⟩)
  rw [show i = xs.length from by omega, List.take_length] at hn
  exact hn
 | succ k ih =>
  intro i hi h l g M hk hle hn
  have hlt : i < xs.length := by omega
  obtain ⟨r, e1, e2⟩ := (n.grow g).int hlt
  rw [krh]
  refine Runs.ifT (decide_eq_true (by omega)) (Runs.step e1 (Runs.step e2 ?_))
  obtain ⟨h1, e3, M1, u1⟩ := M.put xs[i] (.int .i64 (i : Int))
  refine Runs.step e3 ?_
  rw [kf (by omega)]
  have ht : xs.take (i + 1) = xs.take i ++ [xs[i]] := List.take_succ_eq_append_getElem hlt
  have hi := hk xs[i]
  refine ih (i + 1) (by omega) (g.updr hm u1) M1 (fun x => ?_) ?_ ?_
  ·rw [k2m, ht, List.mem_append, List.mem_singleton]
   by_cases hx : x = xs[i]
   ·rw [if_pos hx]
    exact ⟨fun _ => .inr hx, fun _ => rfl⟩
   ·rw [if_neg hx, hk x]
    exact ⟨.inl, fun h => h.resolve_right hx⟩
  ·cases hg : kvGet l xs[i] with
   | none => rw [kr2 _ hg]; simp; omega
   | some w => rw [ksz _ hg]; omega
  ·rw [ht, List.nodup_append]
   cases hg : kvGet l xs[i] with
   | none =>
    rw [hg] at hi
    have hni : xs[i] ∉ xs.take i := fun h => by simpa using hi.2 h
    rw [kr2 _ hg]
    simp only [List.length_append, List.length_singleton]
    constructor
    ·intro e
     refine ⟨hn.1 (by omega), by simp, fun a ha b hb => ?_⟩
     rw [List.mem_singleton] at hb
     subst hb
     rintro rfl
     exact hni ha
    ·intro e
     rw [hn.2 e.1]
   | some w =>
    rw [hg] at hi
    have hin : xs[i] ∈ xs.take i := hi.1 rfl
    rw [ksz _ hg]
    constructor
    ·intro e
     omega
    ·intro e
     exact absurd rfl (e.2.2 _ hin _ (by simp))
theorem k8i (n : Sq EI h0 S s xs) : Runs (go (.fn F.kou [s.v]) h0) fun v h' => v = .bool (idsR xs) ∧ Grow h0 h' := by
 rw [kw0, n.len]
 unfold idsR
 refine Runs.cond (fun c => ?_) (fun c => ?_)
 ·rw [decide_eq_true_eq] at c
  rw [decide_eq_true (show xs.length ≤ 256 by omega), Bool.true_and]
  refine (kyd n).call fun v h1 ⟨e, g1⟩ => ?_
  subst e
  refine Runs.step (seen rfl) ?_
  refine Runs.cond (fun c2 => ?_) (fun c2 => ?_)
  ·rw [c2, Bool.true_and]
   have key : Runs (go (.fn F.kgj [s.v]) h1) fun v h' => Grow h1 h' ∧ ∃ m l, v = .map (some m) ∧ MapIs h' m l ∧ (l.length = xs.length ↔ xs.Nodup) := by
    rw [k9b, n.len]
    refine Runs.newMap fun h2 M g2 => ?_
    exact (k2l (n.grow g1) (by omega) (m := h1.blks.size) (Nat.le_refl _) xs.length 0 (by omega) (l := []) g2 M (fun x => by simp [kvGet]) (Nat.le_refl _) (by simp)).imp fun v h' ⟨g, e, l, M, hn⟩ => ⟨g, _, l, e, M, hn⟩
   refine key.call fun v h2 ⟨g2, m, l, e, M, hn⟩ => ?_
   subst e
   refine Runs.step (seen rfl) (Runs.step M.size (Runs.ret ⟨congrArg AV.bool ?_, g1.trans g2⟩))
   rw [decide_eq_decide, ← hn]
   omega
  ·rw [c2, Bool.false_and]
   exact Runs.ret ⟨rfl, g1⟩
 ·rw [decide_eq_false_iff_not] at c
  rw [decide_eq_false (show ¬ xs.length ≤ 256 by omega), Bool.false_and]
  exact Runs.ret ⟨rfl, Grow.refl _⟩
end
end Go.Ab

/- squeezed -/
set_option linter.unusedVariables false
set_option linter.unusedSimpArgs false
set_option maxRecDepth 10000
namespace Go.Ab
open Go.Proofs
theorem k2h {h0 : AH} {S : Fp} {s : Sl} {xs : List Int} (n : Sq EI h0 S s xs) {b : Nat} {z : Int} {e : TypeId} (hb : h0.has b [.int .i64 z] e) : Runs (go (.fn F.kc2 [s.v, .func (.func F.kcp) [] [.ptr (some (.new b 0))]]) h0) fun v h' => v = .bool (xs.any fun x => decide (x < 0) || decide (x ≥ z)) ∧ Grow h0 h' := by
 rw [k1o]
 refine Runs.contains (xs := xs) ?_
 rw [k7q, n.len]
 refine kh8 (n := xs.length) (G := fun y h => go (.pt F.ky Td.kby [(0, s.v), (1, .func (.func F.kcp) [] [.ptr (some (.new b 0))]), (7, .int .i64 (xs.length : Int)), (8, .int .i64 y)]) h) (fun i h P hi g hT hF => ?_) (fun h g => ?_) xs.length 0 (by omega) (Grow.refl h0) (fun j hj => by omega)
 ·obtain ⟨r, e1, e2⟩ := (n.grow g).int hi
  rw [List.getElem?_eq_getElem hi] at hT hF
  simp only [Option.any_some] at hT hF
  show Runs (go _ _) _
  rw [kt2]
  refine Runs.ifT (decide_eq_true (by omega)) (Runs.step e1 (Runs.step e2 ?_))
  have key : Runs (go (.fn F.kcp [.int .i64 xs[i], .ptr (some (.new b 0))]) h) fun v h' => v = .bool (decide (xs[i] < 0) || decide (xs[i] ≥ z)) ∧ h' = h := by
   rw [k27]
   cases decide (xs[i] < 0)
   ·refine Runs.ifF rfl (Runs.step rfl (Runs.step ((g.has hb).rd0 rfl (kc _ _)) ?_))
    exact Runs.ret ⟨rfl, rfl⟩
   ·exact Runs.ret ⟨rfl, rfl⟩
  refine key.call fun v h' ⟨ev, eh⟩ => ?_
  subst ev; subst eh
  refine Runs.step (seen rfl) ?_
  rw [kf (by have := n.short; omega)]
  exact Runs.cond (fun c => Runs.ret (hT _ g c)) fun c => hF _ g c
 ·rw [kt2, condF (decide_eq_false (by omega))]
section
variable {h0 : AH} {S : Fp} {s1 s2 s3 : Sl} {t : Tb}
theorem k3h (n : TabAt h0 S s1 s2 s3 t) (hl : t.cols.length ≤ 16) (hb : t.bins.length = t.cols.length) {b : Nat} (hbb : h0.blks.size ≤ b) : ∀ (k i : Nat), i + k = t.cols.length → ∀ {h : AH}, Grow h0 h → h.has b [s1.v, s2.v, s3.v] T.ku →
  Runs (go (.pt F.kfa Td.kmy [(1, .ptr (some (.new b 0))), (27, s3.v), (28, .int .i64 (t.cols.length : Int)), (29, .int .i64 (i : Int))]) h) fun v h' => v = .bool (((List.range t.cols.length).drop i).all (colR t)) ∧ Grow h0 h' := by
 intro k
 induction k with
 | zero =>
  intro i hi h g B
  rw [kq1]
  refine Runs.ifF (decide_eq_false (by omega)) (Runs.ret ⟨?_, g⟩)
  rw [kms (by simp; omega)]
 | succ k ih =>
  intro i hi h g B
  have hc : i < t.cols.length := by omega
  have hbi : i < t.bins.length := by omega
  obtain ⟨r, s', e1, e2, -, n'⟩ := (n.cols.grow g).sl hc
  obtain ⟨r2, e3, e4⟩ := (n.bins.grow g).int hbi
  rw [kq1]
  refine Runs.ifT (decide_eq_true (by omega)) (Runs.step e1 (Runs.step e2 (Runs.step (B.rd 1 rfl (asSl_v _)) (Runs.step e3 (Runs.step e4 ?_)))))
  refine Runs.new fun h1 b1 g1 => Runs.puts b1 rfl fun h2 b2 u2 => ?_
  have G : Grow h h2 := g1.updr (Nat.le_refl _) u2
  have B2 := G.has B
  rw [ko0 hc]
  have hcol : colR t i = (!decide (t.bins[i] < 2) && !decide (t.bins[i] > 32) && decide (t.cols[i].length = t.ids.length) && !(t.cols[i].any fun x => decide (x < 0) || decide (x ≥ t.bins[i]))) := by
   simp [colR, List.getD, hbi, hc]
  rw [hcol]
  refine Runs.step (b2.rd0 rfl (kc _ _)) (Runs.cond (fun c => Runs.ret ⟨by rw [c]; rfl, g.trans G⟩) fun c => ?_)
  refine Runs.step (b2.rd0 rfl (kc _ _)) (Runs.cond (fun c2 => Runs.ret ⟨by rw [c, c2]; rfl, g.trans G⟩) fun c2 => ?_)
  refine Runs.step (B2.rd 0 rfl (asSl_v _)) ?_
  rw [n'.len, n.ids.len]
  refine Runs.cond (fun c3 => Runs.ret ⟨?_, g.trans G⟩) fun c3 => ?_
  ·have : ¬ t.cols[i].length = t.ids.length := by simpa [Int.ofNat_inj] using c3
   rw [c, c2, decide_eq_false this]
   rfl
  have c3 : t.cols[i].length = t.ids.length := by simpa [Int.ofNat_inj] using c3
  refine (k2h (n'.grow G) b2).call fun v h3 ⟨ev, g3⟩ => ?_
  subst ev
  refine Runs.step (seen rfl) (Runs.cond (fun c4 => Runs.ret ⟨by rw [c, c2, decide_eq_true c3, c4]; rfl, (g.trans G).trans g3⟩) fun c4 => ?_)
  rw [c, c2, decide_eq_true c3, c4, kf (by omega)]
  exact ih (i + 1) (by omega) ((g.trans G).trans g3) (g3.has B2)
theorem kuy (n : TabAt h0 S s1 s2 s3 t) : Runs (go (.fn F.kfa [.agg [s1.v, s2.v, s3.v]]) h0) fun v h' => v = .bool (tabR t) ∧ Grow h0 h' := by
 rw [kbaz]
 refine Runs.new fun h4 b4 g4 => Runs.step (b4.rd 0 rfl (asSl_v _)) ?_
 refine (k8i (n.ids.grow g4)).call fun v h6 ⟨ev, g6⟩ => ?_
 subst ev
 have B := g6.has b4
 have G := g4.trans g6
 unfold tabR
 refine Runs.step (seen rfl) (Runs.cond (fun c => Runs.ret ⟨by rw [show idsR t.ids = false by simpa using c]; rfl, G⟩) fun c => ?_)
 rw [show idsR t.ids = true by simpa using c, Bool.true_and]
 refine Runs.step (B.rd 2 rfl (asSl_v _)) ?_
 rw [n.cols.len]
 refine Runs.cond (fun c2 => Runs.ret ⟨?_, G⟩) fun c2 => ?_
 ·rw [decide_eq_true_eq] at c2
  rw [decide_eq_true (show t.cols.length > 16 by omega)]
  rfl
 rw [decide_eq_false_iff_not] at c2
 rw [decide_eq_false (show ¬ t.cols.length > 16 by omega)]
 refine Runs.step (B.rd 1 rfl (asSl_v _)) (Runs.step (B.rd 2 rfl (asSl_v _)) ?_)
 rw [n.bins.len, n.cols.len]
 refine Runs.cond (fun c3 => Runs.ret ⟨?_, G⟩) fun c3 => ?_
 ·have : ¬ t.bins.length = t.cols.length := by simpa [Int.ofNat_inj] using c3
  rw [decide_eq_false this]
  rfl
 have c3 : t.bins.length = t.cols.length := by simpa [Int.ofNat_inj] using c3
 rw [decide_eq_true c3]
 refine Runs.step (B.rd 2 rfl (asSl_v _)) ?_
 rw [n.cols.len]
 exact k3h n (by omega) c3 (Nat.le_refl _) t.cols.length 0 (by omega) G B
theorem k9g {s : Sl} {xs : List Int} (n : Sq EI h0 S s xs) (x : Int) (hl : xs.length ≤ 1000000) : ∀ (k i : Nat), i + k = xs.length → (∀ j (hj : j < xs.length), j < i → xs[j] ≠ x) →
  ∃ z, go (.pt F.kfr Td.kj4 [(0, s.v), (1, .int .i64 x), (5, .int .i64 (i : Int))]) h0 = some (.int .i64 z, h0) ∧ ∀ t (ht : t < xs.length), xs[t] = x → (z = (t : Int) ↔ ∀ j (hj : j < xs.length), j < t → xs[j] ≠ x) := by
 intro k
 induction k with
 | zero =>
  intro i hi hn
  refine ⟨-1, ?_, fun t ht e => absurd e (hn t ht (by omega))⟩
  rw [kvm, n.len, condF (decide_eq_false (by omega))]
 | succ k ih =>
  intro i hi hn
  have hlt : i < xs.length := by omega
  obtain ⟨r, e1, e2⟩ := n.int hlt
  rw [kvm, e1, n.len, condT (decide_eq_true (by omega)), Option.bind_some, e2, Option.bind_some]
  by_cases hx : xs[i] = x
  ·rw [condT (decide_eq_true hx)]
   refine ⟨_, rfl, fun t ht e => ⟨fun h j hj hjt => hn j hj (by omega), fun h => ?_⟩⟩
   rcases Nat.lt_trichotomy i t with h1 | h1 | h1
   ·exact absurd hx (h i hlt h1)
   ·rw [h1]
   ·exact absurd e (hn t ht h1)
  ·rw [condF (decide_eq_false hx), kf (by omega)]
   refine ih (i + 1) (by omega) fun j hj hji => ?_
   by_cases h1 : j = i
   ·subst h1; exact hx
   ·exact hn j hj (by omega)
theorem kz1 {s : Sl} {xs : List Int} (n : Sq EI h0 S s xs) (hl : xs.length ≤ 256) : ∀ (k i : Nat), i + k = xs.length → (∀ j (hj : j < xs.length), j < i → 0 ≤ xs[j] ∧ xs[j] ≤ 1073741824) → (xs.take i).Nodup →
  go (.pt F.kgs Td.klm [(0, s.v), (3, .int .i64 (i : Int))]) h0 = some (.bool (!(xs.any fun x => decide (x < 0) || decide (x > 1073741824)) && decide xs.Nodup), h0) := by
 intro k
 induction k with
 | zero =>
  intro i hi hr hn
  rw [kwa, n.len, condF (decide_eq_false (by omega))]
  have h1 : (xs.any fun x => decide (x < 0) || decide (x > 1073741824)) = false := by
   rw [List.any_eq_false]
   intro x hx
   obtain ⟨j, hj, rfl⟩ := List.getElem_of_mem hx
   have := hr j hj (by omega)
   simp
   omega
  rw [show i = xs.length by omega, List.take_length] at hn
  rw [h1, decide_eq_true hn]
  rfl
 | succ k ih =>
  intro i hi hr hn
  have hlt : i < xs.length := by omega
  obtain ⟨r, e1, e2⟩ := n.int hlt
  rw [kwa, e1, n.len, condT (decide_eq_true (by omega))]
  rw [n.len] at e1
  simp only [Option.bind_some, e1, e2]
  have bad : (xs[i] < 0 ∨ xs[i] > 1073741824) → (xs.any fun x => decide (x < 0) || decide (x > 1073741824)) = true := fun h => by
   rw [List.any_eq_true]
   exact ⟨xs[i], List.getElem_mem hlt, by simpa using h⟩
  by_cases c1 : xs[i] < 0
  ·rw [condT (decide_eq_true c1), bad (.inl c1)]
   rfl
  rw [condF (decide_eq_false c1)]
  by_cases c2 : xs[i] > 1073741824
  ·rw [condT (decide_eq_true c2), bad (.inr c2)]
   rfl
  rw [condF (decide_eq_false c2)]
  obtain ⟨z, e3, hz⟩ := k9g n xs[i] (by omega) xs.length 0 (by omega) fun j hj h => by omega
  have hz := hz i hlt rfl
  have hu : go (.fn F.kfr [s.v, .int .i64 xs[i]]) h0 = some (.int .i64 z, h0) := by
   rw [k6l]
   exact e3
  rw [hu]
  simp only [Option.bind_some, kc]
  have ht : xs.take (i + 1) = xs.take i ++ [xs[i]] := List.take_succ_eq_append_getElem hlt
  by_cases c3 : z = (i : Int)
  ·rw [condF (by rw [decide_eq_true c3]; rfl), kf (by omega)]
   refine ih (i + 1) (by omega) (fun j hj hji => ?_) ?_
   ·by_cases h1 : j = i
    ·subst h1; omega
    ·exact hr j hj (by omega)
   ·rw [ht, List.nodup_append]
    refine ⟨hn, by simp, fun a ha b hb => ?_⟩
    rw [List.mem_singleton] at hb
    subst hb
    rintro rfl
    obtain ⟨j, hj, e⟩ := List.getElem_of_mem ha
    rw [List.getElem_take] at e
    rw [List.length_take] at hj
    exact hz.1 c3 j (by omega) (by omega) e
  ·rw [condT (by rw [decide_eq_false c3]; rfl)]
   have : ¬ xs.Nodup := fun h => c3 (hz.2 fun j hj hji e => by
    have := (List.nodup_iff_pairwise_ne.1 h)
    rw [List.pairwise_iff_getElem] at this
    exact this j i hj hlt hji e)
   rw [decide_eq_false this, Bool.and_false]
theorem k69 {s : Sl} {xs : List Int} (n : Sq EI h0 S s xs) : go (.fn F.kgs [s.v]) h0 = some (.bool (idsR xs), h0) := by
 rw [kzv, n.len]
 unfold idsR
 by_cases c : xs.length > 256
 ·rw [condT (decide_eq_true (by omega)), decide_eq_false (by omega)]
  rfl
 ·rw [condF (decide_eq_false (by omega)), decide_eq_true (show xs.length ≤ 256 by omega), Bool.true_and]
  exact kz1 n (by omega) xs.length 0 (by omega) (fun j hj h => by omega) (by simp)
theorem k1a (n : TabAt h0 S s1 s2 s3 t) {b : Nat} (B : h0.has b [s1.v, s2.v, s3.v] T.ku) {i : Nat} (hc : i < t.cols.length) (hl : t.cols.length ≤ 16) (hb : t.bins.length = t.cols.length) (hi : t.cols[i].length = t.ids.length) (hids : t.ids.length ≤ 256) : ∀ (k j : Nat), j + k = t.ids.length →
  go (.pt F.kch Td.kla [(1, .ptr (some (.new b 0))), (4, .int .i64 (i : Int)), (5, .int .i64 (j : Int))]) h0 = cond ((t.cols[i].drop j).any fun x => decide (x < 0) || decide (x ≥ t.bins[i])) (some (.bool false, h0)) (go (.pt F.kch Td.kjq [(1, .ptr (some (.new b 0))), (4, .int .i64 ((i + 1 : Nat) : Int))]) h0) := by
 have hbi : i < t.bins.length := by omega
 obtain ⟨r, s', e1, e2, -, n'⟩ := n.cols.sl hc
 obtain ⟨r2, e3, e4⟩ := n.bins.int hbi
 intro k
 induction k with
 | zero =>
  intro j hj
  rw [ktd, B.rd 0 rfl (asSl_v _), Option.bind_some, n.ids.len, condF (decide_eq_false (by omega)), kf (by omega), List.drop_of_length_le (by omega)]
  rfl
 | succ k ih =>
  intro j hj
  have hjc : j < t.cols[i].length := by omega
  obtain ⟨r3, e5, e6⟩ := n'.int hjc
  rw [ktd, B.rd 0 rfl (asSl_v _), Option.bind_some, n.ids.len, condT (decide_eq_true (by omega)), B.rd 2 rfl (asSl_v _)]
  simp only [Option.bind_some, e1, e2, e5, e6, B.rd 1 rfl (asSl_v _), e3, e4]
  rw [List.drop_eq_getElem_cons hjc, List.any_cons]
  by_cases c1 : t.cols[i][j] < 0
  ·rw [condT (decide_eq_true c1), decide_eq_true c1]
   rfl
  rw [condF (decide_eq_false c1), decide_eq_false c1, Bool.false_or]
  by_cases c2 : t.cols[i][j] ≥ t.bins[i]
  ·rw [condT (decide_eq_true c2), decide_eq_true c2]
   rfl
  rw [condF (decide_eq_false c2), decide_eq_false c2, Bool.false_or, kf (by omega)]
  exact ih (j + 1) (by omega)
theorem kxk (n : TabAt h0 S s1 s2 s3 t) {b : Nat} (B : h0.has b [s1.v, s2.v, s3.v] T.ku) (hl : t.cols.length ≤ 16) (hb : t.bins.length = t.cols.length) (hids : t.ids.length ≤ 256) : ∀ (k i : Nat), i + k = t.cols.length →
  go (.pt F.kch Td.kjq [(1, .ptr (some (.new b 0))), (4, .int .i64 (i : Int))]) h0 = some (.bool (((List.range t.cols.length).drop i).all (colR t)), h0) := by
 intro k
 induction k with
 | zero =>
  intro i hi
  rw [kuv, B.rd 2 rfl (asSl_v _), Option.bind_some, n.cols.len, condF (decide_eq_false (by omega)), kms (by simp; omega)]
 | succ k ih =>
  intro i hi
  have hc : i < t.cols.length := by omega
  have hbi : i < t.bins.length := by omega
  obtain ⟨r, s', e1, e2, -, n'⟩ := n.cols.sl hc
  obtain ⟨r2, e3, e4⟩ := n.bins.int hbi
  have hcol : colR t i = (!decide (t.bins[i] < 2) && !decide (t.bins[i] > 32) && decide (t.cols[i].length = t.ids.length) && !(t.cols[i].any fun x => decide (x < 0) || decide (x ≥ t.bins[i]))) := by
   simp [colR, List.getD, hbi, hc]
  rw [ko0 hc, hcol]
  rw [kuv, B.rd 2 rfl (asSl_v _), Option.bind_some, n.cols.len, condT (decide_eq_true (by omega)), B.rd 1 rfl (asSl_v _), Option.bind_some, e3, Option.bind_some, e4, Option.bind_some]
  simp only [Option.bind_some, B.rd 0 rfl (asSl_v _), e1, e2, e3, e4]
  by_cases c1 : t.bins[i] < 2
  ·rw [condT (decide_eq_true c1), decide_eq_true c1]
   rfl
  rw [condF (decide_eq_false c1), decide_eq_false c1]
  by_cases c2 : t.bins[i] > 32
  ·rw [condT (decide_eq_true c2), decide_eq_true c2]
   rfl
  rw [condF (decide_eq_false c2), decide_eq_false c2, n'.len, n.ids.len]
  by_cases c3 : t.cols[i].length = t.ids.length
  ·rw [condF (by rw [decide_eq_true (by omega)]; rfl), decide_eq_true c3, show (0 : Int) = ((0 : Nat) : Int) from rfl, k1a n B hc hl hb c3 hids t.ids.length 0 (by omega), List.drop_zero]
   cases (t.cols[i].any fun x => decide (x < 0) || decide (x ≥ t.bins[i])) with
   | true => rfl
   | false => rw [cond_false, ih (i + 1) (by omega)]; rfl
  ·rw [condT (by rw [decide_eq_false (by omega)]; rfl), decide_eq_false c3]
   rfl
theorem kqn (n : TabAt h0 S s1 s2 s3 t) : Runs (go (.fn F.kch [.agg [s1.v, s2.v, s3.v]]) h0) fun v h' => v = .bool (tabR t) ∧ Grow h0 h' := by
 rw [k1z]
 refine Runs.new fun h4 B G => Runs.step (B.rd 0 rfl (asSl_v _)) ?_
 refine Runs.step (k69 (n.ids.grow G)) ?_
 unfold tabR
 refine Runs.step (seen rfl) (Runs.cond (fun c => Runs.ret ⟨by rw [show idsR t.ids = false by simpa using c]; rfl, G⟩) fun c => ?_)
 have c : idsR t.ids = true := by simpa using c
 rw [c, Bool.true_and]
 refine Runs.step (B.rd 2 rfl (asSl_v _)) ?_
 rw [n.cols.len]
 refine Runs.cond (fun c2 => Runs.ret ⟨?_, G⟩) fun c2 => ?_
 ·rw [decide_eq_true_eq] at c2
  rw [decide_eq_true (show t.cols.length > 16 by omega)]
  rfl
 rw [decide_eq_false_iff_not] at c2
 rw [decide_eq_false (show ¬ t.cols.length > 16 by omega)]
 refine Runs.step (B.rd 1 rfl (asSl_v _)) (Runs.step (B.rd 2 rfl (asSl_v _)) ?_)
 rw [n.bins.len, n.cols.len]
 refine Runs.cond (fun c3 => Runs.ret ⟨?_, G⟩) fun c3 => ?_
 ·have : ¬ t.bins.length = t.cols.length := by simpa [Int.ofNat_inj] using c3
  rw [decide_eq_false this]
  rfl
 have c3 : t.bins.length = t.cols.length := by simpa [Int.ofNat_inj] using c3
 rw [decide_eq_true c3]
 have hids : t.ids.length ≤ 256 := by
  unfold idsR at c
  simp at c
  exact c.1
 have := kxk (n.grow G) B (by omega) c3 hids t.cols.length 0 (by omega)
 exact ⟨_, _, this, rfl, G⟩
end
end Go.Ab

/- squeezed -/
set_option linter.unusedVariables false
namespace Go.Ab
theorem kvh : ∀ (n w : Nat), w ≠ 0 → w < 2 ^ n → ∃ k m, k < n ∧ w = 2 ^ (k + 1) * m + 2 ^ k := by
 intro n
 induction n with
 | zero => intro w h0 h; omega
 | succ n ih =>
  intro w h0 h
  rcases Nat.mod_two_eq_zero_or_one w with e | e
  ·obtain ⟨k, m, hk, hm⟩ := ih (w / 2) (by omega) (by rw [Nat.pow_succ] at h; omega)
   refine ⟨k + 1, m, by omega, ?_⟩
   have : w = 2 * (w / 2) := by omega
   rw [this, hm, Nat.mul_add, ← Nat.mul_assoc, ← Nat.pow_succ', ← Nat.pow_succ']
  ·exact ⟨0, w / 2, by omega, by simp; omega⟩
theorem khu {k m : Nat} (j : Nat) : (2 ^ (k + 1) * m + 2 ^ k).testBit j = if j < k then false else if j = k then true else m.testBit (j - (k + 1)) := by
 rw [Nat.testBit_two_pow_mul_add _ (Nat.pow_lt_pow_right (by decide) (Nat.lt_succ_self k)), Nat.testBit_two_pow]
 grind
theorem kwx (k m : Nat) : (2 ^ (k + 1) * m + 2 ^ k) &&& (2 ^ (k + 1) * m + 2 ^ k - 1) = 2 ^ (k + 1) * m := by
 have hp : 0 < 2 ^ k := Nat.two_pow_pos k
 have e : 2 ^ (k + 1) * m + 2 ^ k - 1 = 2 ^ (k + 1) * m + (2 ^ k - 1) := by omega
 rw [e]
 apply Nat.eq_of_testBit_eq
 intro j
 rw [Nat.testBit_and, khu, Nat.testBit_two_pow_mul_add _ (by rw [Nat.pow_succ]; omega), Nat.testBit_two_pow_sub_one, Nat.testBit_two_pow_mul]
 grind
theorem k2k {k m n : Nat} (h : 2 ^ (k + 1) * m + 2 ^ k < 2 ^ n) : (2 ^ (k + 1) * m + 2 ^ k) &&& (2 ^ n - (2 ^ (k + 1) * m + 2 ^ k)) = 2 ^ k := by
 have hk : k < n := by
  rcases Nat.lt_or_ge k n with h1 | h1
  ·exact h1
  ·have := Nat.pow_le_pow_right (n := 2) (by decide) h1
   omega
 obtain ⟨d, rfl⟩ : ∃ d, n = (k + 1) + d := ⟨n - (k + 1), by omega⟩
 have hm : m < 2 ^ d := by
  rcases Nat.lt_or_ge m (2 ^ d) with h1 | h1
  ·exact h1
  ·have := Nat.mul_le_mul_left (2 ^ (k + 1)) h1
   rw [← Nat.pow_add] at this
   exact absurd h (Nat.not_lt.2 (Nat.le_trans this (Nat.le_add_right _ _)))
 have e : 2 ^ (k + 1 + d) - (2 ^ (k + 1) * m + 2 ^ k) = 2 ^ (k + 1) * (2 ^ d - (m + 1)) + 2 ^ k := by
  have a : 2 ^ (k + 1 + d) = 2 ^ (k + 1) * 2 ^ d := Nat.pow_add ..
  have b : 2 ^ (k + 1) * 2 ^ d = 2 ^ (k + 1) * (2 ^ d - (m + 1)) + 2 ^ (k + 1) * (m + 1) := by rw [← Nat.mul_add]; congr 1; omega
  have c : 2 ^ (k + 1) * (m + 1) = 2 ^ (k + 1) * m + 2 ^ (k + 1) := by rw [Nat.mul_add, Nat.mul_one]
  have f : 2 ^ (k + 1) = 2 ^ k + 2 ^ k := by rw [Nat.pow_succ]; omega
  omega
 rw [e]
 apply Nat.eq_of_testBit_eq
 intro j
 rw [Nat.testBit_and, khu, khu, Nat.testBit_two_pow]
 by_cases h1 : j < k
 ·have : ¬ k = j := by omega
  simp [h1, this]
 ·by_cases h2 : j = k
  ·subst h2; simp
  ·have : ¬ k = j := by omega
   rw [if_neg h1, if_neg h2, if_neg h1, if_neg h2, Nat.testBit_two_pow_sub_succ hm]
   simp [this]
   intro a b
   exact a
def ones (w : Nat) : List Nat := (List.range 64).filter w.testBit
theorem k96 {p q : Nat → Bool} {k : Nat} : ∀ {n : Nat}, k < n → p k = true → (∀ j, j < k → p j = false) → (∀ j, j < n → q j = (p j && decide (j ≠ k))) → (List.range n).filter p = k :: (List.range n).filter q := by
 intro n
 induction n with
 | zero => intro h; omega
 | succ n ih =>
  intro h hp hl hq
  rw [List.range_succ, List.filter_append, List.filter_append]
  by_cases e : k = n
  ·subst e
   have a : (List.range k).filter p = [] := List.filter_eq_nil_iff.2 fun j hj => by rw [hl j (List.mem_range.1 hj)]; simp
   have b : (List.range k).filter q = [] := List.filter_eq_nil_iff.2 fun j hj => by
    have := List.mem_range.1 hj
    rw [hq j (by omega), hl j this]; simp
   rw [a, b]
   have : q k = false := by rw [hq k (by omega)]; simp
   simp [hp, this]
  ·rw [ih (by omega) hp hl fun j hj => hq j (by omega)]
   have : q n = p n := by rw [hq n (by omega)]; simp; intro _; omega
   simp [this, List.filter_cons]
theorem kwb : ones 0 = [] := by
 unfold ones
 exact List.filter_eq_nil_iff.2 fun j _ => by simp
theorem ktp {k m : Nat} (hk : k < 64) : ones (2 ^ (k + 1) * m + 2 ^ k) = k :: ones (2 ^ (k + 1) * m) := by
 unfold ones
 refine k96 hk (by rw [khu]; simp) (fun j hj => by rw [khu]; simp [hj]) fun j _ => ?_
 rw [khu, Nat.testBit_two_pow_mul]
 by_cases h1 : j < k
 ·have : ¬ k + 1 ≤ j := by omega
  simp [h1, this]
 ·by_cases h2 : j = k
  ·subst h2
   have : ¬ j + 1 ≤ j := by omega
   simp [this]
  ·have : k + 1 ≤ j := by omega
   simp [h1, h2, this]
end Go.Ab

/- squeezed -/
set_option linter.unusedVariables false
set_option linter.unusedSimpArgs false
set_option maxRecDepth 10000
namespace Go.Ab
open Go.Proofs
theorem kpw {a b : Nat} (ha : a < 18446744073709551616) (hb : b < 18446744073709551616) : iand .u64 (a : Int) (b : Int) = ((a &&& b : Nat) : Int) := by
 unfold iand
 rw [show IntKind.bits .u64 = 64 from rfl, wrapU]
 have e1 : BitVec.ofInt 64 (a : Int) = BitVec.ofNat 64 a := rfl
 have e2 : BitVec.ofInt 64 (b : Int) = BitVec.ofNat 64 b := rfl
 rw [e1, e2, BitVec.toNat_and, BitVec.toNat_ofNat, BitVec.toNat_ofNat, Nat.mod_eq_of_lt (show a < 2 ^ 64 from ha), Nat.mod_eq_of_lt (show b < 2 ^ 64 from hb)]
 have : a &&& b ≤ a := Nat.and_le_left
 omega
theorem or_nat {a b : Nat} (ha : a < 18446744073709551616) (hb : b < 18446744073709551616) : ior .u64 (a : Int) (b : Int) = ((a ||| b : Nat) : Int) := by
 unfold ior
 rw [show IntKind.bits .u64 = 64 from rfl, wrapU]
 have e1 : BitVec.ofInt 64 (a : Int) = BitVec.ofNat 64 a := rfl
 have e2 : BitVec.ofInt 64 (b : Int) = BitVec.ofNat 64 b := rfl
 rw [e1, e2, BitVec.toNat_or, BitVec.toNat_ofNat, BitVec.toNat_ofNat, Nat.mod_eq_of_lt (show a < 2 ^ 64 from ha), Nat.mod_eq_of_lt (show b < 2 ^ 64 from hb)]
 have : a ||| b < 2 ^ 64 := Nat.or_lt_two_pow ha hb
 omega
theorem ktb (x n : Nat) : ishr .u64 (x : Int) (n : Int) = ((x / 2 ^ min n 64 : Nat) : Int) := by
 unfold ishr
 rw [Int.toNat_natCast, show IntKind.bits .u64 = 64 from rfl]
 have : ((2 : Int) ^ min n 64) = ((2 ^ min n 64 : Nat) : Int) := by simp
 rw [this, Int.fdiv_eq_ediv_of_nonneg _ (Int.natCast_nonneg _)]
 exact (Int.natCast_ediv _ _).symm
theorem kbar {n : Nat} (hn : n < 64) : ishl .u64 1 (n : Int) = ((2 ^ n : Nat) : Int) := by
 unfold ishl
 rw [Int.toNat_natCast, show IntKind.bits .u64 = 64 from rfl, Nat.min_eq_left (by omega), wrapU]
 have h1 : (1 : Int) * (2 : Int) ^ n = ((2 ^ n : Nat) : Int) := by simp
 have h2 : 2 ^ n < 2 ^ 64 := Nat.pow_lt_pow_right (by decide) hn
 rw [h1]
 generalize 2 ^ n = q at *
 omega
def tzTab : List Nat := [0, 1, 56, 2, 57, 49, 28, 3, 61, 58, 42, 50, 38, 29, 17, 4, 62, 47, 59, 36, 45, 43, 51, 22, 53, 39, 33, 30, 24, 18, 12, 5, 63, 55, 48, 27, 60, 41, 37, 16, 46, 35, 44, 21, 52, 32, 23, 11, 54, 26, 40, 15, 34, 20, 31, 10, 25, 14, 19, 9, 13, 8, 7, 6]
theorem tz_idx : ∀ k : _root_.Fin 64, tzTab.getD ((2 ^ k.val * 285870213051353865 % 18446744073709551616) / 288230376151711744) 0 = k.val := by decide +kernel
def Tab (h : AH) : Prop := ∀ k : Nat, k < 64 → h.cell (.old ⟨Gl.math_bits_deBruijn64tab, k, none⟩) = some (.int .u8 ((tzTab.getD k 0 : Nat) : Int))
theorem Tab.md {h h' : AH} {T : Fp} (t : Tab h) (m : Md T h h') : Tab h' := fun k hk => by
 rw [← t k hk]
 simp only [AH.cell, m.old]
theorem Tab.grow {h h' : AH} (t : Tab h) (g : Grow h h') : Tab h' := t.md (g.md Fp.no)
theorem tz_is {h : AH} (T : Tab h) {k m : Nat} (hk : k < 64) (hw : 2 ^ (k + 1) * m + 2 ^ k < 18446744073709551616) : go (.fn F.kpz [.int .u64 ((2 ^ (k + 1) * m + 2 ^ k : Nat) : Int)]) h = some (.int .i64 (k : Int), h) := by
 rw [k4q]
 have hp := Nat.two_pow_pos k
 have en := k2k (k := k) (m := m) (n := 64) hw
 generalize hW : 2 ^ (k + 1) * m + 2 ^ k = W at *
 have hW0 : 0 < W := by omega
 have e1 : IntKind.wrap .u64 (0 - (W : Int)) = ((18446744073709551616 - W : Nat) : Int) := by rw [wrapU]; omega
 rw [condF (decide_eq_false (by omega)), e1, kpw hw (by omega), en]
 have e2 : IntKind.wrap .u64 (((2 ^ k : Nat) : Int) * 285870213051353865) = ((2 ^ k * 285870213051353865 % 18446744073709551616 : Nat) : Int) := by
  rw [wrapU, show ((2 ^ k : Nat) : Int) * 285870213051353865 = ((2 ^ k * 285870213051353865 : Nat) : Int) from by simp]
  rfl
 have ht := tz_idx ⟨k, hk⟩
 dsimp only at ht
 rw [e2, show (58 : Int) = ((58 : Nat) : Int) from rfl, ktb, show 2 ^ min 58 64 = 288230376151711744 from rfl]
 generalize hJ : 2 ^ k * 285870213051353865 % 18446744073709551616 / 288230376151711744 = J at *
 have hJ64 : J < 64 := by
  rw [← hJ, Nat.div_lt_iff_lt_mul (by decide)]
  exact Nat.mod_lt _ (by decide)
 have ei : idx (some (Ref.old ⟨Gl.math_bits_deBruijn64tab, 0, none⟩)) 64 (J : Int) 1 = some (.old ⟨Gl.math_bits_deBruijn64tab, J, none⟩) := by
  rw [kda _ _ _ _ (by omega) (by omega), Int.toNat_natCast, Nat.mul_one]
  simp [Ref.add, Addr.add]
  exact fun h => h.symm
 rw [ei, Option.bind_some, T J hJ64, ht]
 show some (AV.int .i64 (IntKind.wrap .i64 (k : Int)), h) = _
 rw [wrap64 (by omega) (by omega)]
def wbit (w : List Nat) (i : Nat) : Bool := (w.getD (i / 64) 0).testBit (i % 64)
def btR (n : Int) (w : List Nat) : Bool := decide (0 ≤ n) && (decide (n ≤ 65536) && (decide (w.length = (n.toNat + 63) / 64) && (List.range (64 * w.length)).all fun i => decide (i < n.toNat) || !wbit w i))
theorem k17 {x k : Nat} : x < 2 ^ k ↔ ∀ i, k ≤ i → x.testBit i = false :=
 ⟨fun h i hi => Nat.testBit_lt_two_pow (Nat.lt_of_lt_of_le h (Nat.pow_le_pow_right (by decide) hi)), fun h => Nat.lt_pow_two_of_testBit x h⟩
section
variable {h0 : AH} {s : Sl} {w : List Nat} {n : Int}
theorem Nats.rdN {h : AH} (N : Nats h s w) {i : Nat} (hi : i < w.length) : ∃ r : Ref, idx s.ref s.len (i : Int) 1 = some r ∧ (h.cell r).bind (AV.asInt .u64) = some (w[i] : Int) := by
 obtain ⟨r, e1, e2⟩ := N.at hi
 exact ⟨r, e1, rdc e2 (kc _ _)⟩
theorem kkf (N : Nats h0 s w) : Runs (go (.fn F.kha [.agg [.int .i64 n, s.v]]) h0) fun v h' => v = .bool (btR n w) ∧ Grow h0 h' := by
 rw [kyx]
 refine Runs.new fun h1 b1 g1 => Runs.step (b1.rd 0 rfl (kc _ _)) (Runs.cond (fun c => ?_) fun c => ?_)
 ·rw [decide_eq_true_eq] at c
  refine Runs.ret ⟨?_, g1⟩
  unfold btR
  rw [decide_eq_false (by omega)]; rfl
 rw [decide_eq_false_iff_not] at c
 refine Runs.step (b1.rd 0 rfl (kc _ _)) (Runs.cond (fun c2 => ?_) fun c2 => ?_)
 ·rw [decide_eq_true_eq] at c2
  refine Runs.ret ⟨?_, g1⟩
  unfold btR
  rw [decide_eq_false (show ¬ n ≤ 65536 by omega)]; simp
 rw [decide_eq_false_iff_not] at c2
 obtain ⟨z, rfl⟩ : ∃ z : Nat, n = (z : Int) := ⟨n.toNat, by omega⟩
 have N1 := N.grow g1
 refine Runs.step (b1.rd 1 rfl (asSl_v _)) (Runs.step (b1.rd 0 rfl (kc _ _)) ?_)
 rw [N.len, wrap64 (n := (z : Int) + 64) (by omega) (by omega), wrap64 (n := (z : Int) + 64 - 1) (by omega) (by omega), show (z : Int) + 64 - 1 = ((z + 63 : Nat) : Int) from by omega, show Int.tdiv ((z + 63 : Nat) : Int) 64 = (((z + 63) / 64 : Nat) : Int) from rfl, wrap64 (by omega) (by omega)]
 have hb : btR (z : Int) w = (decide (w.length = (z + 63) / 64) && (List.range (64 * w.length)).all fun i => decide (i < z) || !wbit w i) := by
  unfold btR
  rw [decide_eq_true (show (0 : Int) ≤ (z : Int) by omega), decide_eq_true (show (z : Int) ≤ 65536 by omega), Int.toNat_natCast]; rfl
 rw [hb]
 refine Runs.cond (fun c3 => ?_) fun c3 => ?_
 ·refine Runs.ret ⟨?_, g1⟩
  rw [Bool.not_eq_true', decide_eq_false_iff_not] at c3
  rw [decide_eq_false (by omega)]; rfl
 rw [Bool.not_eq_false', decide_eq_true_eq] at c3
 have hl : w.length = (z + 63) / 64 := by omega
 rw [decide_eq_true hl, Bool.true_and]
 refine Runs.step (b1.rd 0 rfl (kc _ _)) ?_
 rw [show Int.tmod (z : Int) 64 = ((z % 64 : Nat) : Int) from rfl]
 refine Runs.cond (fun c4 => ?_) fun c4 => ?_
 ·rw [decide_eq_true_eq] at c4
  refine Runs.ret ⟨congrArg AV.bool ?_, g1⟩
  symm
  rw [List.all_eq_true]
  intro i hi
  rw [List.mem_range] at hi
  rw [decide_eq_true (by omega)]; rfl
 rw [decide_eq_false_iff_not] at c4
 have hi : z / 64 < w.length := by omega
 obtain ⟨r, e1, e2⟩ := N1.rdN hi
 refine Runs.step (b1.rd 1 rfl (asSl_v _)) (Runs.step (b1.rd 1 rfl (asSl_v _)) ?_)
 rw [N.len, show ((w.length : Nat) : Int) - 1 = ((z / 64 : Nat) : Int) from by omega, wrap64 (by omega) (by omega)]
 rw [N.len] at e1
 refine Runs.step e1 (Runs.step e2 (Runs.step (b1.rd 0 rfl (kc _ _)) ?_))
 rw [show Int.tmod (z : Int) 64 = ((z % 64 : Nat) : Int) from rfl, ktb]
 refine Runs.ifF (decide_eq_false (by omega)) (Runs.ret ⟨congrArg AV.bool ?_, g1⟩)
 rw [Bool.eq_iff_iff, decide_eq_true_eq, List.all_eq_true, Nat.min_eq_left (by omega)]
 have hx : ((w[z / 64] / 2 ^ (z % 64) : Nat) : Int) = 0 ↔ w[z / 64] < 2 ^ (z % 64) := by
  have := Nat.div_eq_zero_iff (a := w[z / 64]) (b := 2 ^ (z % 64))
  have := Nat.two_pow_pos (z % 64)
  omega
 rw [hx, k17]
 have hg : w.getD (z / 64) 0 = w[z / 64] := by simp [List.getD, hi]
 constructor
 ·intro H i hi'
  rw [List.mem_range] at hi'
  rcases Nat.lt_or_ge i z with h | h
  ·rw [decide_eq_true h]; rfl
  ·have : i / 64 = z / 64 := by omega
   unfold wbit
   rw [this, hg, H (i % 64) (by omega)]; simp
 ·intro H j hj
  rcases Nat.lt_or_ge j 64 with h | h
  ·have := H (64 * (z / 64) + j) (by rw [List.mem_range]; omega)
   unfold wbit at this
   rw [decide_eq_false (by omega), show (64 * (z / 64) + j) / 64 = z / 64 from by omega, show (64 * (z / 64) + j) % 64 = j from by omega, hg] at this
   simpa using this
  ·exact Nat.testBit_lt_two_pow (Nat.lt_of_lt_of_le (N.lt _ (List.getElem_mem hi)) (show 2 ^ 64 ≤ 2 ^ j from Nat.pow_le_pow_right (by decide) h))
end
end Go.Ab

/- squeezed -/
set_option linter.unusedVariables false
set_option linter.unusedSimpArgs false
set_option maxRecDepth 10000
namespace Go.Ab
open Go.Proofs
def zs (l : List Nat) : List Int := l.map fun x : Nat => (x : Int)
theorem zs_len (l : List Nat) : (zs l).length = l.length := List.length_map _
theorem zs_app (l m : List Nat) : zs (l ++ m) = zs l ++ zs m := List.map_append
theorem kp6 {n : Nat} (h : n ≤ 1000000) : growOk Pg n T.int 1 = true := by
 unfold growOk
 rw [kzx, k74]
 have h1 : n * 8 ≤ ks := by simp only [ks]; omega
 have h2 : n ≤ ks := by simp only [ks]; omega
 simp [h1, h2]
def btL (n : Int) (w : List Nat) : List Nat := if btR n w then (List.range n.toNat).filter (wbit w) else []
theorem btR_n {n : Int} {w : List Nat} (h : btR n w = true) : 0 ≤ n ∧ n ≤ 65536 ∧ w.length = (n.toNat + 63) / 64 ∧ ∀ i, i < 64 * w.length → n.toNat ≤ i → wbit w i = false := by
 unfold btR at h
 simp only [Bool.and_eq_true, decide_eq_true_eq, List.all_eq_true, List.mem_range, Bool.or_eq_true, Bool.not_eq_true'] at h
 exact ⟨h.1, h.2.1, h.2.2.1, fun i hi hn => (h.2.2.2 i hi).resolve_left (by omega)⟩
theorem btR_of {n : Int} {w : List Nat} (h1 : 0 ≤ n) (h2 : n ≤ 65536) (h3 : w.length = (n.toNat + 63) / 64) (h4 : ∀ i, i < 64 * w.length → n.toNat ≤ i → wbit w i = false) : btR n w = true := by
 unfold btR
 simp only [Bool.and_eq_true, decide_eq_true_eq, List.all_eq_true, List.mem_range, Bool.or_eq_true, Bool.not_eq_true']
 exact ⟨h1, h2, h3, fun i hi => (Nat.lt_or_ge i n.toNat).imp_right (h4 i hi)⟩
section
variable {h0 : AH} {s : Sl} {w : List Nat} {n : Int}
theorem k38 {i : Nat} : ∀ (k j : Nat), j + k = i % 64 → ∀ (x : Nat) (h : AH), x < 18446744073709551616 →
  go (.pt F.kex Td.kj6 [(1, .int .i64 (i : Int)), (5, .int .u64 (x : Int)), (6, .int .i64 (j : Int))]) h = some (.bool (x.testBit k), h) := by
 intro k
 induction k with
 | zero =>
  intro j hj x h hx
  rw [kv4, show Int.tmod (i : Int) 64 = ((i % 64 : Nat) : Int) from rfl, condF (decide_eq_false (by omega)), show Int.tmod (x : Int) 2 = ((x % 2 : Nat) : Int) from rfl]
  have : x.testBit 0 = decide (((x % 2 : Nat) : Int) = 1) := by
   rw [Nat.testBit_zero, decide_eq_decide]
   omega
  rw [this]
 | succ k ih =>
  intro j hj x h hx
  rw [kv4, show Int.tmod (i : Int) 64 = ((i % 64 : Nat) : Int) from rfl, condT (decide_eq_true (by omega)), show Int.tdiv (x : Int) 2 = ((x / 2 : Nat) : Int) from rfl, kf (by omega)]
  have : IntKind.wrap .u64 ((x / 2 : Nat) : Int) = ((x / 2 : Nat) : Int) := by rw [wrapU]; omega
  rw [this, ih (j + 1) (by omega) (x / 2) h (by omega), Nat.testBit_succ]
theorem kta (N : Nats h0 s w) {i : Nat} (hi : i / 64 < w.length) (hl : i < 4611686018427387904) : Runs (go (.fn F.kex [.agg [.int .i64 n, s.v], .int .i64 (i : Int)]) h0) fun v h' => v = .bool (wbit w i) ∧ Grow h0 h' := by
 rw [k1q]
 refine Runs.new fun h1 b1 g1 => Runs.step (b1.rd 1 rfl (asSl_v _)) ?_
 obtain ⟨r, e1, e2⟩ := (N.grow g1).rdN hi
 rw [show Int.tdiv (i : Int) 64 = ((i / 64 : Nat) : Int) from rfl, wrap64 (by omega) (by omega)]
 refine Runs.step e1 (Runs.step e2 ?_)
 rw [show (0 : Int) = ((0 : Nat) : Int) from rfl, k38 (i % 64) 0 (by omega) _ _ (N.lt _ (List.getElem_mem hi))]
 refine Runs.ret ⟨?_, g1⟩
 unfold wbit
 simp [List.getD, hi]
theorem kbag {b : Nat} (N : Nats h0 s w) (hl : w.length ≤ 2000) (hb : h0.has b [.int .i64 n, s.v] T.kn) : ∀ (k i : Nat), (64 * w.length) ≤ i + k → ∀ {h : AH}, Grow h0 h →
  Runs (go (.pt F.kff Td.km4 [(1, .ptr (some (.new b 0))), (3, .int .i64 (i : Int))]) h) fun v h' => v = .bool (((List.range (64 * w.length)).drop i).all fun j => !wbit w j) ∧ Grow h0 h' := by
 intro k
 induction k with
 | zero =>
  intro i hi h g
  rw [krm]
  refine Runs.step ((g.has hb).rd 1 rfl (asSl_v _)) ?_
  rw [N.len, wrap64 (by omega) (by omega)]
  refine Runs.ifF (decide_eq_false (by omega)) (Runs.ret ⟨?_, g⟩)
  rw [kms (by simp; omega)]
 | succ k ih =>
  intro i hi h g
  rw [krm]
  refine Runs.step ((g.has hb).rd 1 rfl (asSl_v _)) ?_
  rw [N.len, wrap64 (by omega) (by omega)]
  refine Runs.cond (fun c => ?_) fun c => ?_
  ·rw [decide_eq_true_eq] at c
   refine Runs.step ((g.has hb).rd 0 rfl (kc _ _)) (Runs.step ((g.has hb).rd 1 rfl (asSl_v _)) ?_)
   refine (kta (N.grow g) (i := i) (by omega) (by omega)).call fun v h1 ⟨e, g1⟩ => ?_
   subst e
   refine Runs.step (seen rfl) ?_
   rw [ko0 (by omega)]
   refine Runs.cond (fun c2 => Runs.ret ⟨by rw [c2]; rfl, g.trans g1⟩) fun c2 => ?_
   rw [kf (by omega), c2]
   exact ih (i + 1) (by omega) (g.trans g1)
  ·rw [decide_eq_false_iff_not] at c
   refine Runs.ret ⟨?_, g⟩
   rw [kms (by simp; omega)]
theorem krn (N : Nats h0 s w) : Runs (go (.fn F.kff [.agg [.int .i64 n, s.v]]) h0) fun v h' => v = .bool (btR n w) ∧ Grow h0 h' := by
 rw [k24]
 refine Runs.new fun h1 b1 g1 => Runs.step (b1.rd 0 rfl (kc _ _)) (Runs.cond (fun c => ?_) fun c => ?_)
 ·rw [decide_eq_true_eq] at c
  refine Runs.ret ⟨?_, g1⟩
  unfold btR
  rw [decide_eq_false (by omega)]; rfl
 rw [decide_eq_false_iff_not] at c
 refine Runs.step (b1.rd 0 rfl (kc _ _)) (Runs.cond (fun c2 => ?_) fun c2 => ?_)
 ·rw [decide_eq_true_eq] at c2
  refine Runs.ret ⟨?_, g1⟩
  unfold btR
  rw [decide_eq_false (show ¬ n ≤ 65536 by omega)]; simp
 rw [decide_eq_false_iff_not] at c2
 obtain ⟨z, rfl⟩ : ∃ z : Nat, n = (z : Int) := ⟨n.toNat, by omega⟩
 have N1 := N.grow g1
 refine Runs.step (b1.rd 1 rfl (asSl_v _)) (Runs.step (b1.rd 0 rfl (kc _ _)) ?_)
 rw [N.len, wrap64 (n := (z : Int) + 63) (by omega) (by omega), show (z : Int) + 63 = ((z + 63 : Nat) : Int) from by omega, show Int.tdiv ((z + 63 : Nat) : Int) 64 = (((z + 63) / 64 : Nat) : Int) from rfl, wrap64 (by omega) (by omega)]
 have hb : btR (z : Int) w = (decide (w.length = (z + 63) / 64) && (List.range (64 * w.length)).all fun i => decide (i < z) || !wbit w i) := by
  unfold btR
  rw [decide_eq_true (show (0 : Int) ≤ (z : Int) by omega), decide_eq_true (show (z : Int) ≤ 65536 by omega), Int.toNat_natCast]; rfl
 rw [hb]
 refine Runs.cond (fun c3 => ?_) fun c3 => ?_
 ·refine Runs.ret ⟨?_, g1⟩
  rw [Bool.not_eq_true', decide_eq_false_iff_not] at c3
  rw [decide_eq_false (by omega)]; rfl
 rw [Bool.not_eq_false', decide_eq_true_eq] at c3
 have hl : w.length = (z + 63) / 64 := by omega
 rw [decide_eq_true hl, Bool.true_and]
 refine Runs.step (b1.rd 0 rfl (kc _ _)) ?_
 refine (kbag N1 (by omega) b1 (64 * w.length) z (by omega) (Grow.refl h1)).imp fun v h' ⟨e, g⟩ => ⟨?_, g1.trans g⟩
 rw [e]
 congr 1
 rw [Bool.eq_iff_iff, List.all_eq_true, List.all_eq_true]
 constructor
 ·intro H i hi
  rw [List.mem_range] at hi
  rcases Nat.lt_or_ge i z with h | h
  ·rw [decide_eq_true h]; rfl
  ·rw [H i (by rw [List.mem_drop_iff_getElem]; exact ⟨i - z, by simp; omega, by simp; omega⟩)]; simp
 ·intro H i hi
  rw [List.mem_drop_iff_getElem] at hi
  obtain ⟨j, hj, e⟩ := hi
  simp at hj e
  have := H i (by rw [List.mem_range]; omega)
  rw [decide_eq_false (by omega)] at this
  simpa using this
theorem k3w {b : Nat} {z : Nat} (N : Nats h0 s w) (hR : btR (z : Int) w = true) (hb : h0.has b [.int .i64 (z : Int), s.v] T.kn) : ∀ (k i : Nat), i + k = z → ∀ {h : AH} {t : Sl} {j : Option Nat}, Grow h0 h → LeO h0.blks.size j →
  GF EI T.int h Fp.no t j (zs ((List.range i).filter (wbit w))) →
  Runs (go (.pt F.ke3 Td.kil [(1, .ptr (some (.new b 0))), (3, .bool true), (4, t.v), (5, .int .i64 (i : Int))]) h) fun v h' => Grow h0 h' ∧ ∃ (t' : Sl) (j' : Option Nat), v = t'.v ∧ LeO h0.blks.size j' ∧ GF EI T.int h' Fp.no t' j' (zs ((List.range z).filter (wbit w))) := by
 obtain ⟨_, hz, hl, _⟩ := btR_n hR
 intro k
 induction k with
 | zero =>
  intro i hi h t j g lj V
  obtain rfl : i = z := by omega
  rw [kqb]
  refine Runs.ifT rfl (Runs.step ((g.has hb).rd 0 rfl (kc _ _)) (Runs.ifF (decide_eq_false (by omega)) (Runs.ret ⟨g, t, j, rfl, lj, V⟩)))
 | succ k ih =>
  intro i hi h t j g lj V
  rw [kqb]
  refine Runs.ifT rfl (Runs.step ((g.has hb).rd 0 rfl (kc _ _)) (Runs.ifT (decide_eq_true (by omega)) ?_))
  refine Runs.step ((g.has hb).rd 0 rfl (kc _ _)) (Runs.step ((g.has hb).rd 1 rfl (asSl_v _)) ?_)
  refine (kta (N.grow g) (i := i) (by omega) (by omega)).call fun v h1 ⟨e, g1⟩ => ?_
  subst e
  refine Runs.step (seen rfl) (Runs.cond (fun c => ?_) fun c => ?_)
  ·refine Runs.new fun h2 b2 g2 => ?_
   refine Runs.step (kfw b2 (by rw [kh1]; rfl)) ?_
   have V2 := (V.grow g1).grow g2
   have hlen : (zs ((List.range i).filter (wbit w))).length ≤ i := by
    rw [zs_len]
    exact Nat.le_trans (List.length_filter_le _ _) (by simp)
   obtain ⟨t', h3, e3, V3, u3⟩ := V2.push (T := Fp.no) (cs := [.int .i64 (i : Int)]) (x := (i : Int)) rfl NotO.no (kp6 (by omega))
   refine Runs.step e3 (Runs.step (asSl_v _) ?_)
   rw [kf (by omega)]
   have g3 : Grow h0 h3 := ((g.trans g1).trans g2).updo lj u3
   refine ih (i + 1) (by omega) g3 (t := t') (j := some h2.blks.size) (show _ ≤ _ from ((g.trans g1).trans g2).size) ?_
   have : zs ((List.range (i + 1)).filter (wbit w)) = zs ((List.range i).filter (wbit w)) ++ [(i : Int)] := by
    rw [List.range_succ, List.filter_append, zs_app]
    simp [c, zs]
   rw [this]
   exact V3.mono (fun j x => x.1.elim id id) NotO.no
  ·rw [kf (by omega)]
   refine ih (i + 1) (by omega) (g.trans g1) lj ?_
   have : (List.range (i + 1)).filter (wbit w) = (List.range i).filter (wbit w) := by
    rw [List.range_succ, List.filter_append]
    simp [c]
   rw [this]
   exact V.grow g1
theorem k6x (N : Nats h0 s w) : Runs (go (.fn F.ke3 [.agg [.int .i64 n, s.v]]) h0) fun v h' => Grow h0 h' ∧ ∃ (t' : Sl) (j' : Option Nat), v = t'.v ∧ LeO h0.blks.size j' ∧ GF EI T.int h' Fp.no t' j' (zs (btL n w)) := by
 rw [k6f]
 refine Runs.new fun h1 b1 g1 => Runs.step (b1.rd 0 rfl (kc _ _)) (Runs.step (b1.rd 1 rfl (asSl_v _)) ?_)
 refine (krn (N.grow g1)).call fun v h2 ⟨e, g2⟩ => ?_
 subst e
 refine Runs.step (seen rfl) ?_
 cases hR : btR n w with
 | false =>
  rw [kqb]
  refine Runs.ifF rfl (Runs.ret ⟨g1.trans g2, _, none, rfl, trivial, ?_⟩)
  unfold btL
  rw [hR]
  exact GF.none _ _ _ _
 | true =>
  obtain ⟨h1n, _⟩ := btR_n hR
  obtain ⟨z, rfl⟩ : ∃ z : Nat, n = (z : Int) := ⟨n.toNat, by omega⟩
  refine (k3w (N.grow (g1.trans g2)) hR (g2.has b1) z 0 (by omega) (Grow.refl h2) (j := none) trivial (GF.none _ _ _ _)).imp fun v h' ⟨g, t', j', e, lj, V⟩ => ⟨(g1.trans g2).trans g, t', j', e, LeO.trans (g1.trans g2).size lj, ?_⟩
  unfold btL
  rw [hR]
  exact V
end
end Go.Ab

/- squeezed -/
set_option linter.unusedVariables false
set_option linter.unusedSimpArgs false
set_option maxRecDepth 10000
namespace Go.Ab
open Go.Proofs
theorem k2x {w : List Nat} {i j : Nat} (hi : i / 64 < w.length) : wbit (w.set (i / 64) (w[i / 64] ||| 2 ^ (i % 64))) j = (decide (j = i) || wbit w j) := by
 unfold wbit
 by_cases h : j / 64 = i / 64
 ·rw [h]
  have : (w.set (i / 64) (w[i / 64] ||| 2 ^ (i % 64))).getD (i / 64) 0 = w[i / 64] ||| 2 ^ (i % 64) := by simp [List.getD, hi]
  rw [this, Nat.testBit_or, Nat.testBit_two_pow]
  have h2 : w.getD (i / 64) 0 = w[i / 64] := by simp [List.getD, hi]
  rw [h2, Bool.or_comm]
  congr 1
  rw [decide_eq_decide]
  omega
 ·have h1 : (w.set (i / 64) (w[i / 64] ||| 2 ^ (i % 64))).getD (j / 64) 0 = w.getD (j / 64) 0 := by
   simp only [List.getD]
   rw [List.getElem?_set_ne (by omega)]
  rw [h1]
  have : ¬ j = i := fun e => h (by rw [e])
  simp [this]
theorem kyc (n i : Nat) : wbit (List.replicate n 0) i = false := by
 unfold wbit
 have : (List.replicate n 0).getD (i / 64) 0 = 0 := by
  simp only [List.getD, List.getElem?_replicate]
  split <;> rfl
 rw [this]
 exact Nat.zero_testBit _
section
variable {h0 : AH}
theorem kt8 {n : Nat} (hn : n ≤ 65536) : Runs (go (.fn F.kj5 [.int .i64 (n : Int)]) h0) fun v h' => Grow h0 h' ∧ ∃ (s : Sl) (i : Nat), v = .tup [.agg [.int .i64 (n : Int), s.v], .int .i64 0] ∧ h0.blks.size ≤ i ∧ Vec h' s i (List.replicate ((n + 63) / 64) 0) := by
 rw [kxd]
 refine Runs.new fun h1 b1 g1 => Runs.ifF (decide_eq_false (by omega)) (Runs.ifF (decide_eq_false (by omega)) ?_)
 rw [wrap64 (n := (n : Int) + 64) (by omega) (by omega), wrap64 (n := (n : Int) + 64 - 1) (by omega) (by omega), show (n : Int) + 64 - 1 = ((n + 63 : Nat) : Int) from by omega, show Int.tdiv ((n + 63 : Nat) : Int) 64 = (((n + 63) / 64 : Nat) : Int) from rfl, wrap64 (by omega) (by omega)]
 refine Runs.mk (kdn (by omega)) kdb fun s h2 V g2 => ?_
 refine Runs.puts (g2.has b1) rfl fun h3 b3 u3 => ?_
 refine Runs.step (b3.rd 0 rfl (kc _ _)) (Runs.step (b3.rd 1 rfl (asSl_v _)) (Runs.ret ⟨(g1.trans g2).updr (Nat.le_refl _) u3, s, h1.blks.size, rfl, g1.size, V.updr (by have := b1.lt; omega) u3⟩))
end
end Go.Ab

/- squeezed -/
set_option linter.unusedVariables false
set_option linter.unusedSimpArgs false
set_option maxRecDepth 10000
namespace Go.Ab
open Go.Proofs
theorem k4l {w : List Nat} {i : Nat} (hi : i < w.length) : (List.range (64 * (i + 1))).filter (wbit w) = (List.range (64 * i)).filter (wbit w) ++ (ones w[i]).map (fun k => 64 * i + k) := by
 rw [Nat.mul_add, Nat.mul_one, List.range_add, List.filter_append, List.filter_map]
 congr 1
 unfold ones
 congr 1
 apply List.filter_congr
 intro k hk
 rw [List.mem_range] at hk
 simp only [Function.comp, wbit]
 rw [show (64 * i + k) / 64 = i from by omega, show (64 * i + k) % 64 = k from by omega]
 simp [List.getD, hi]
section
variable {w : List Nat} {s : Sl} {l : Nat}
theorem k0k {Inv : List Nat → AH → Prop} (hT : ∀ d h, Inv d h → Tab h) (hround : ∀ d i h, Inv d h → i < 64 * w.length → d.length < 64 * w.length → Runs (go (.round l [.int .i64 (i : Int)]) h) fun v h' => v = .bool true ∧ Inv (d ++ [i]) h') (hl : w.length ≤ 2000) {i : Nat} (hi : i < w.length) {P : AV → AH → Prop} :
  ∀ (n x : Nat), x < 18446744073709551616 → (ones x).length = n → ∀ (d : List Nat) (h : AH), d.length + n ≤ 64 * w.length → Inv d h → (∀ h', Inv (d ++ (ones x).map (fun k => 64 * i + k)) h' → Runs (go (.pt F.kbo Td.kik [(0, .func (.yield l) [] []), (6, s.v), (7, .int .i64 (w.length : Int)), (8, .int .i64 ((i + 1 : Nat) : Int))]) h') P) →
  Runs (go (.pt F.kbo Td.kk9 [(0, .func (.yield l) [] []), (3, .int .i64 (i : Int)), (4, .int .u64 (x : Int)), (6, s.v), (7, .int .i64 (w.length : Int)), (8, .int .i64 (i : Int))]) h) P := by
 intro n
 induction n with
 | zero =>
  intro x hx hn d h hd I H
  have hx0 : x = 0 := by
   rcases Nat.eq_zero_or_pos x with h0 | h0
   ·exact h0
   ·obtain ⟨k, m, hk, rfl⟩ := kvh 64 x (by omega) hx
    rw [ktp hk] at hn
    simp at hn
  subst hx0
  rw [kv8]
  refine Runs.ifF (by rfl) ?_
  rw [kf (by omega)]
  rw [kwb] at H
  exact H h (by simpa using I)
 | succ n ih =>
  intro x hx hn d h hd I H
  have hx0 : x ≠ 0 := fun e => by subst e; rw [kwb] at hn; simp at hn
  obtain ⟨k, m, hk, hxe⟩ := kvh 64 x hx0 hx
  subst hxe
  rw [ktp hk] at hn H
  rw [kv8]
  refine Runs.ifT (by rw [decide_eq_false (by omega)]; rfl) ?_
  refine Runs.step (tz_is (hT _ _ I) hk hx) (Runs.step (seen rfl) ?_)
  rw [wrap64 (n := 64 * (i : Int)) (by omega) (by omega), wrap64 (by omega) (by omega), show 64 * (i : Int) + (k : Int) = ((64 * i + k : Nat) : Int) from by omega]
  refine (hround d (64 * i + k) h I (by omega) (by omega)).call fun v h1 ⟨e, I1⟩ => ?_
  subst e
  refine Runs.step (seen rfl) (Runs.ifF rfl ?_)
  have e1 : IntKind.wrap .u64 (((2 ^ (k + 1) * m + 2 ^ k : Nat) : Int) - 1) = ((2 ^ (k + 1) * m + 2 ^ k - 1 : Nat) : Int) := by
   have := Nat.two_pow_pos k
   generalize 2 ^ (k + 1) * m + 2 ^ k = W at *
   rw [wrapU]
   omega
  have hle : 2 ^ (k + 1) * m < 18446744073709551616 := by
   have := Nat.two_pow_pos k
   exact Nat.lt_of_le_of_lt (Nat.le_add_right _ _) hx
  dsimp only
  rw [e1, kpw hx (by omega), kwx]
  refine ih _ hle (by simpa using hn) (d ++ [64 * i + k]) h1 (by rw [List.length_append, List.length_singleton]; omega) I1 fun h' I' => H h' ?_
  simpa using I'
theorem kxt {Inv : List Nat → AH → Prop} (hT : ∀ d h, Inv d h → Tab h) (hN : ∀ d h, Inv d h → Nats h s w) (hround : ∀ d i h, Inv d h → i < 64 * w.length → d.length < 64 * w.length → Runs (go (.round l [.int .i64 (i : Int)]) h) fun v h' => v = .bool true ∧ Inv (d ++ [i]) h') (hl : w.length ≤ 2000) :
  ∀ (k i : Nat), i + k = w.length → ∀ h, Inv ((List.range (64 * i)).filter (wbit w)) h →
  Runs (go (.pt F.kbo Td.kik [(0, .func (.yield l) [] []), (6, s.v), (7, .int .i64 (w.length : Int)), (8, .int .i64 (i : Int))]) h) fun v h' => v = .tup [] ∧ Inv ((List.range (64 * w.length)).filter (wbit w)) h' := by
 intro k
 induction k with
 | zero =>
  intro i hi h I
  obtain rfl : i = w.length := by omega
  rw [kwc]
  exact Runs.ifF (decide_eq_false (by omega)) (Runs.ret ⟨rfl, I⟩)
 | succ k ih =>
  intro i hi h I
  have hlt : i < w.length := by omega
  obtain ⟨r, e1, e2⟩ := (hN _ _ I).rdN hlt
  rw [kwc]
  refine Runs.ifT (decide_eq_true (by omega)) (Runs.step e1 (Runs.step e2 ?_))
  refine k0k hT hround hl hlt _ _ ((hN _ _ I).lt _ (List.getElem_mem hlt)) rfl _ h ?_ I fun h' I' => ?_
  ·have h1 := List.length_filter_le (wbit w) (List.range (64 * i))
   have h2 := List.length_filter_le w[i].testBit (List.range 64)
   rw [List.length_range] at h1 h2
   show _ + ((List.range 64).filter _).length ≤ _
   omega
  rw [← k4l hlt] at I'
  exact ih (i + 1) (by omega) h' I'
end
end Go.Ab

/- squeezed -/
set_option linter.unusedVariables false
set_option linter.unusedSimpArgs false
set_option maxRecDepth 10000
namespace Go.Ab
open Go.Proofs
noncomputable def aNote (st : LoopState) (b : Nat) (g : AV) : ABlk := kdg Fx.kn8 F.kdr 0 st none [(0, (⟨none, 0, .is 0⟩ : Sl).v), (1, g), (2, .ptr (some (.new b 0))), (4, (⟨none, 0, .is 0⟩ : Sl).v), (6, g)]
structure Coll (h0 : AH) (b l : Nat) (g : AV) (d : List Nat) (h : AH) : Prop where
 grow : Grow h0 h
 note : h.blks[l]? = some (aNote .ready b g)
 out : ∃ (t : Sl) (j : Option Nat), h.has b [t.v] T.kb6 ∧ LeO (l + 1) j ∧ GF EI T.int h Fp.no t j (zs d)
theorem kc3 {m n : Nat} (h : m < n) : ∀ {j : Option Nat}, LeO n j → ∀ k, j = some k → k ≠ m
 | some x, l, k, e => by cases e; have : n ≤ x := l; omega
theorem kzq {h0 h : AH} {b l : Nat} {g : AV} {d : List Nat} (hb : h0.blks.size ≤ b) (hbl : b < l) (I : Coll h0 b l g d h) (hd : d.length < 900000) (i : Nat) : Runs (go (.round l [.int .i64 (i : Int)]) h) fun v h' => v = .bool true ∧ Coll h0 b l g (d ++ [i]) h' := by
 obtain ⟨G, hn, t, j, B, lj, V⟩ := I
 have hl : l < h.blks.size := (Array.getElem?_eq_some_iff.1 hn).1
 rw [k84 l none _ _ _ _ _ _ _ hn, kp4 (h := h) hn, Option.bind_some]
 generalize hq : h.setBlk l _ = h1
 have u1 : Upd h h1 l := by rw [← hq]; exact AH.setBlk_Upd _
 have n1 : h1.blks[l]? = some (aNote .busy b g) := by rw [← hq]; exact AH.setBlk_get hl
 have B1 : h1.has b [t.v] T.kb6 := B.updr (by omega) u1
 have V1 : GF EI T.int h1 Fp.no t j (zs d) := V.upd u1 Fp.not_no (kc3 (Nat.lt_succ_self l) lj)
 refine Runs.step (B1.rd0 rfl (asSl_v _)) ?_
 refine Runs.new fun h2 b2 g2 => ?_
 refine Runs.step (kfw b2 (by rw [kh1]; rfl)) ?_
 obtain ⟨t', h3, e3, V3, u3⟩ := (V1.grow g2).push (T := Fp.no) (cs := [.int .i64 (i : Int)]) (x := (i : Int)) rfl NotO.no (kp6 (by rw [zs_len]; omega))
 refine Runs.step e3 (Runs.step (asSl_v _) ?_)
 have m3 : Md (Fp.opt j) h2 h3 := u3.md fun k e => e
 have no : ∀ {m : Nat}, m ≤ l → ¬ Fp.opt j m := fun hm e => kc3 (Nat.lt_succ_of_le hm) lj _ e rfl
 have B3 : h3.has b [t.v] T.kb6 := m3.has (g2.has B1) (no (by omega))
 have n3 : h3.blks[l]? = some (aNote .busy b g) := m3.get ((g2.blk l (Array.getElem?_eq_some_iff.1 n1).1).trans n1) (no (Nat.le_refl _))
 refine Runs.puts B3 rfl fun h4 B4 u4 => ?_
 have n4 : h4.blks[l]? = some (aNote .busy b g) := (u4.blk l (by omega) (Array.getElem?_eq_some_iff.1 n3).1).trans n3
 rw [knu n4]
 have u5 : Upd h4 (h4.setBlk l (aNote .ready b g)) l := AH.setBlk_Upd _
 have hs : h.blks.size ≤ h2.blks.size := Nat.le_trans u1.size g2.size
 refine Runs.ret ⟨rfl, ?_, AH.setBlk_get (Array.getElem?_eq_some_iff.1 n4).1, t', some h2.blks.size, B4.updr (by omega) u5, show l + 1 ≤ h2.blks.size by omega, ?_⟩
 ·have G2 : Grow h0 h2 := (G.updr (by omega) u1).trans g2
  have G3 : Grow h0 h3 := G2.updo (LeO.trans (by omega) lj) u3
  exact (G3.updr hb u4).updr (by omega) u5
 ·rw [zs_app]
  have V4 : GF EI T.int h3 Fp.no t' (some h2.blks.size) (zs d ++ [(i : Int)]) := V3.mono (fun j x => x.1.elim id id) NotO.no
  have := (V4.upd u4 Fp.not_no fun k e => by cases e; omega).upd u5 Fp.not_no fun k e => by cases e; omega
  exact this
section
variable {h0 : AH} {s : Sl} {w : List Nat} {n : Int}
theorem kyt (T0 : Tab h0) (N : Nats h0 s w) : Runs (go (.fn F.kk3 [.agg [.int .i64 n, s.v]]) h0) fun v h' => Grow h0 h' ∧ ∃ (t' : Sl) (j' : Option Nat), v = t'.v ∧ LeO h0.blks.size j' ∧ GF EI T.int h' Fp.no t' j' (zs (btL n w)) := by
 rw [k36]
 refine Runs.new fun h1 b1 g1 => Runs.step (b1.rd 0 rfl (kc _ _)) (Runs.step (b1.rd 1 rfl (asSl_v _)) ?_)
 refine (kkf (N.grow g1)).call fun v h2 ⟨e, g2⟩ => ?_
 subst e
 refine Runs.step (seen rfl) ?_
 cases hR : btR n w with
 | false =>
  refine Runs.ifT rfl (Runs.ret ⟨g1.trans g2, _, none, rfl, trivial, ?_⟩)
  unfold btL
  rw [hR]
  exact GF.none _ _ _ _
 | true =>
  obtain ⟨hn0, hn1, hlen, hov⟩ := btR_n hR
  refine Runs.ifF rfl (Runs.step ((g2.has b1).rd 0 rfl (kc _ _)) (Runs.step ((g2.has b1).rd 1 rfl (asSl_v _)) ?_))
  have k0 : Runs (go (.fn F.kna [.agg [.int .i64 n, s.v]]) h2) fun v h' => v = .func (.func F.kbo) [] [.ptr (some (.new h2.blks.size 0))] ∧ h'.has h2.blks.size [.int .i64 n, s.v] T.kn ∧ Grow h2 h' := by
   rw [kyk]
   exact Runs.new fun h3 b3 g3 => Runs.ret ⟨rfl, b3, g3⟩
  refine k0.call fun v h3 ⟨e, b3, g3⟩ => ?_
  subst e
  have G3 : Grow h0 h3 := (g1.trans g2).trans g3
  have key : Runs (go (.fn F.kdr [(⟨none, 0, .is 0⟩ : Sl).v, .func (.func F.kbo) [] [.ptr (some (.new h2.blks.size 0))]]) h3) fun v h' => Grow h3 h' ∧ ∃ (t' : Sl) (j' : Option Nat), v = t'.v ∧ LeO h3.blks.size j' ∧ GF EI T.int h' Fp.no t' j' (zs (btL n w)) := by
   rw [k42]
   refine Runs.new fun h4 b4 g4 => ?_
   rw [kbah, kn4]
   refine Runs.newM fun h5 hb g5 => ?_
   rw [k0o]
   generalize hgv : (AV.func (.func F.kbo) [] [AV.ptr (some (Ref.new h2.blks.size 0))]) = gv at hb
   have s4 : h3.blks.size < h4.blks.size := b4.lt
   have b3' : h5.has h2.blks.size [.int .i64 n, s.v] T.kn := g5.has (g4.has b3)
   have I0 : Coll h3 h3.blks.size h4.blks.size gv [] h5 := ⟨g4.trans g5, hb, _, none, g5.has b4, trivial, GF.none _ _ _ _⟩
   have N3 : Nats h3 s w := N.grow G3
   have T3 : Tab h3 := T0.grow G3
   have k1 : Runs (go (.fn F.kbo [.func (.yield h4.blks.size) [] [], .ptr (some (.new h2.blks.size 0))]) h5) fun v h' => v = .tup [] ∧ Coll h3 h3.blks.size h4.blks.size gv ((List.range (64 * w.length)).filter (wbit w)) h' := by
    rw [k6n]
    refine Runs.step (b3'.rd 1 rfl (asSl_v _)) ?_
    rw [N.len]
    exact kxt (Inv := Coll h3 h3.blks.size h4.blks.size gv) (fun d h I => T3.grow I.grow) (fun d h I => N3.grow I.grow) (fun d i h I hi hd => kzq (Nat.le_refl _) s4 I (by omega) i) (by omega) w.length 0 (by omega) h5 (by simpa using I0)
   refine k1.call fun v h6 ⟨e, I⟩ => ?_
   obtain ⟨G, hn, t, j, B, lj, V⟩ := I
   rw [knc hn, Option.bind_some]
   rw [kwt]
   have hl := (Array.getElem?_eq_some_iff.1 hn).1
   have u6 : Upd h6 (h6.setBlk h4.blks.size .dead) h4.blks.size := AH.setBlk_Upd _
   refine Runs.step ((B.updr (by omega) u6).rd0 rfl (asSl_v _)) (Runs.ret ⟨G.updr (by omega) u6, t, j, rfl, LeO.trans (by omega) lj, ?_⟩)
   have e : btL n w = (List.range (64 * w.length)).filter (wbit w) := by
    unfold btL
    rw [hR, if_pos rfl]
    obtain ⟨z, rfl⟩ : ∃ z : Nat, n = (z : Int) := ⟨n.toNat, by omega⟩
    rw [Int.toNat_natCast] at hlen hov ⊢
    obtain ⟨q, hq⟩ : ∃ q, 64 * w.length = z + q := ⟨64 * w.length - z, by omega⟩
    rw [hq, List.range_add, List.filter_append]
    have : ((List.range q).map (z + ·)).filter (wbit w) = [] := List.filter_eq_nil_iff.2 fun x hx => by
     rw [List.mem_map] at hx
     obtain ⟨y, hy, rfl⟩ := hx
     rw [List.mem_range] at hy
     rw [hov (z + y) (by omega) (by omega)]
     simp
    rw [this, List.append_nil]
   rw [e]
   exact V.upd u6 Fp.not_no (kc3 (Nat.lt_succ_self _) lj)
  have k2 : Runs (go (.fn F.kpq [.func (.func F.kbo) [] [.ptr (some (.new h2.blks.size 0))]]) h3) fun v h' => Grow h3 h' ∧ ∃ (t' : Sl) (j' : Option Nat), v = t'.v ∧ LeO h3.blks.size j' ∧ GF EI T.int h' Fp.no t' j' (zs (btL n w)) := by
   rw [k4i]
   refine key.call fun v h' ⟨g, t', j', e, lj, V⟩ => ?_
   subst e
   exact Runs.step (seen (asSl_v _)) (Runs.ret ⟨g, t', j', rfl, lj, V⟩)
  refine k2.call fun v h' ⟨g, t', j', e, lj, V⟩ => ?_
  subst e
  exact Runs.step (seen (asSl_v _)) (Runs.ret ⟨G3.trans g, t', j', rfl, LeO.trans G3.size lj, V⟩)
end
end Go.Ab

/- squeezed -/
set_option linter.unusedVariables false
set_option linter.unusedSimpArgs false
set_option maxRecDepth 10000
namespace Go.Ab
open Go.Proofs
theorem kbai {w : List Nat} {i x : Nat} (hi : i < w.length) (j : Nat) : wbit (w.set i x) j = if j / 64 = i then x.testBit (j % 64) else wbit w j := by
 unfold wbit
 split
 ·rename_i h
  rw [h]
  have : (w.set i x).getD i 0 = x := by simp [List.getD, hi]
  rw [this]
 ·rename_i h
  have : (w.set i x).getD (j / 64) 0 = w.getD (j / 64) 0 := by
   simp only [List.getD]
   rw [List.getElem?_set_ne (by omega)]
  rw [this]
theorem kr7 {w : List Nat} {j : Nat} (h : w.length ≤ j / 64) : wbit w j = false := by
 unfold wbit
 have : w.getD (j / 64) 0 = 0 := by simp [List.getD, h]
 rw [this]
 exact Nat.zero_testBit _
section
variable {h0 : AH} {S : Fp} {s : Sl}
theorem k6p {xs : List Int} (n : Sq EI h0 S s xs) {b : Nat} {z : Int} {e : TypeId} (hb : h0.has b [.int .i64 z] e) : Runs (go (.fn F.kc2 [s.v, .func (.func F.kcq) [] [.ptr (some (.new b 0))]]) h0) fun v h' => v = .bool (xs.any fun x => decide (x < 0) || decide (x ≥ z)) ∧ Grow h0 h' := by
 rw [k2s]
 refine Runs.contains (xs := xs) ?_
 rw [k3y, n.len]
 refine kh8 (n := xs.length) (G := fun y h => go (.pt F.ky Td.kby [(0, s.v), (1, .func (.func F.kcq) [] [.ptr (some (.new b 0))]), (7, .int .i64 (xs.length : Int)), (8, .int .i64 y)]) h) (fun i h P hi g hT hF => ?_) (fun h g => ?_) xs.length 0 (by omega) (Grow.refl h0) (fun j hj => by omega)
 ·obtain ⟨r, e1, e2⟩ := (n.grow g).int hi
  rw [List.getElem?_eq_getElem hi] at hT hF
  simp only [Option.any_some] at hT hF
  show Runs (go _ _) _
  rw [kth]
  refine Runs.ifT (decide_eq_true (by omega)) (Runs.step e1 (Runs.step e2 ?_))
  have key : Runs (go (.fn F.kcq [.int .i64 xs[i], .ptr (some (.new b 0))]) h) fun v h' => v = .bool (decide (xs[i] < 0) || decide (xs[i] ≥ z)) ∧ h' = h := by
   rw [k4o]
   cases decide (xs[i] < 0)
   ·refine Runs.ifF rfl (Runs.step rfl (Runs.step ((g.has hb).rd0 rfl (kc _ _)) ?_))
    exact Runs.ret ⟨rfl, rfl⟩
   ·exact Runs.ret ⟨rfl, rfl⟩
  refine key.call fun v h' ⟨ev, eh⟩ => ?_
  subst ev; subst eh
  refine Runs.step (seen rfl) ?_
  rw [kf (by have := n.short; omega)]
  exact Runs.cond (fun c => Runs.ret (hT _ g c)) fun c => hF _ g c
 ·rw [kth, condF (decide_eq_false (by omega))]
theorem kxm {l : List Nat} {n : Nat} (q : Sq EI h0 S s (zs l)) (hl : ∀ x ∈ l, x < n) (hn : n ≤ 65536) {b c i : Nat} {t : Sl} (hb : h0.blks.size ≤ b) (hci : c ≠ i) (hbc : b ≠ c) (hbi : b ≠ i) (hi : h0.blks.size ≤ i) : ∀ (k j : Nat), j + k = l.length → ∀ (h : AH) (w : List Nat), Grow h0 h → (∃ cs : List AV, cs.length = 2 ∧ h.has b cs T.kn) → h.has c [.int .i64 (n : Int), t.v] T.kn → Vec h t i w → w.length = (n + 63) / 64 → (∀ m, wbit w m = decide (m ∈ l.take j)) →
  Runs (go (.pt F.kf7 Td.kmh [(4, .ptr (some (.new b 0))), (6, .ptr (some (.new c 0))), (23, s.v), (24, .int .i64 (l.length : Int)), (25, .int .i64 (j : Int))]) h) fun v h' => Grow h0 h' ∧ ∃ (t : Sl) (w : List Nat), v = .tup [.agg [.int .i64 (n : Int), t.v], .int .i64 0] ∧ Nats h' t w ∧ w.length = (n + 63) / 64 ∧ Own h0 t ∧ ∀ m, wbit w m = decide (m ∈ l) := by
 intro k
 induction k with
 | zero =>
  intro j hj h w g ⟨cs, hcs, B⟩ C V hw hm
  obtain rfl : j = l.length := by omega
  rw [ks8]
  refine Runs.ifF (decide_eq_false (by omega)) (Runs.step (C.rd 0 rfl (kc _ _)) (Runs.step (C.rd 1 rfl (asSl_v _)) ?_))
  refine Runs.puts B (by rw [hcs]; rfl) fun h1 B1 u1 => ?_
  refine Runs.step (B1.rd 0 rfl (kc _ _)) (Runs.step (B1.rd 1 rfl (asSl_v _)) (Runs.ret ⟨g.updr hb u1, t, w, rfl, (V.updr (fun e => hbi e.symm) u1).nats, hw, V.own hi, fun m => ?_⟩))
  rw [hm, List.take_length]
 | succ k ih =>
  intro j hj h w g hB C V hw hm
  have hj' : j < (zs l).length := by rw [zs_len]; omega
  obtain ⟨r, e1, e2⟩ := (q.grow g).int hj'
  have hx : (zs l)[j] = ((l[j]'(by omega) : Nat) : Int) := by simp [zs]
  have hjl : j < l.length := by omega
  have hxn : l[j] < n := hl _ (List.getElem_mem hjl)
  have hq : l[j] / 64 < w.length := by omega
  rw [ks8]
  refine Runs.ifT (decide_eq_true (by omega)) (Runs.step e1 (Runs.step e2 ?_))
  rw [hx]
  refine Runs.step (C.rd 1 rfl (asSl_v _)) ?_
  rw [show Int.tdiv ((l[j] : Nat) : Int) 64 = ((l[j] / 64 : Nat) : Int) from rfl, wrap64 (by omega) (by omega), show Int.tmod ((l[j] : Nat) : Int) 64 = ((l[j] % 64 : Nat) : Int) from rfl, V.len]
  refine Runs.step (V.idx rfl (kw hq)) (Runs.step (V.rd rfl (kw hq) (kc _ _)) (Runs.ifF (decide_eq_false (by omega)) (Runs.step (V.idx rfl (kw hq)) ?_)))
  have hwl : w[l[j] / 64] < 18446744073709551616 := V.lt _ (List.getElem_mem hq)
  have hpl : 2 ^ (l[j] % 64) < 2 ^ 64 := Nat.pow_lt_pow_right (by decide) (by omega)
  have hgd : w.getD (l[j] / 64) 0 = w[l[j] / 64] := by simp [List.getD, hq]
  rw [hgd, kbar (by omega), or_nat hwl hpl]
  refine Runs.vput V rfl (kw hq) (kz (Nat.or_lt_two_pow (n := 64) hwl hpl)) fun h1 V1 u1 => ?_
  rw [kf (by have := q.short; rw [zs_len] at this; omega)]
  obtain ⟨cs, hcs, B⟩ := hB
  refine ih (j + 1) (by omega) h1 _ (g.updr hi u1) ⟨cs, hcs, B.updr hbi u1⟩ (C.updr hci u1) V1 (by rw [List.length_set]; exact hw) fun m => ?_
  rw [k2x hq, hm, List.take_succ_eq_append_getElem hjl, Bool.eq_iff_iff]
  simp only [Bool.or_eq_true, decide_eq_true_eq, List.mem_append, List.mem_singleton]
  exact Or.comm
theorem kz0 {l : List Nat} {n : Nat} (q : Sq EI h0 S s (zs l)) (hl : ∀ x ∈ l, x < n) (hn : n ≤ 65536) : Runs (go (.fn F.kf7 [.int .i64 (n : Int), s.v]) h0) fun v h' => Grow h0 h' ∧ ∃ (t : Sl) (w : List Nat), v = .tup [.agg [.int .i64 (n : Int), t.v], .int .i64 0] ∧ Nats h' t w ∧ w.length = (n + 63) / 64 ∧ Own h0 t ∧ ∀ m, wbit w m = decide (m ∈ l) := by
 rw [kbaf]
 refine Runs.new fun h1 b1 g1 => Runs.new fun h2 b2 g2 => Runs.step ((g2.has b1).rd0 rfl (kc _ _)) ?_
 refine (kt8 hn).call fun v h3 ⟨g3, t, i, e, hi, V⟩ => ?_
 subst e
 refine Runs.step rfl (Runs.step rfl (Runs.ifT rfl (Runs.step rfl (Runs.step (seenAt rfl (asSl_v _)) (Runs.step rfl ?_)))))
 dsimp only
 refine Runs.new fun h4 b4 g4 => Runs.puts b4 rfl fun h5 b5 u5 => Runs.ifF rfl ?_
 have s1 : h0.blks.size < h1.blks.size := b1.lt
 have s2 : h1.blks.size < h2.blks.size := b2.lt
 have s3 : i < h3.blks.size := V.inn
 have s4 : h2.blks.size ≤ h3.blks.size := g3.size
 have G4 : Grow h0 h4 := (((g1.trans g2).trans g3).trans g4)
 have G5 : Grow h0 h5 := G4.updr (by have := G4.size; omega) u5
 have G25 : Grow h2 h5 := (g3.trans g4).updr (by omega) u5
 refine (k6p (q.grow G5) (G25.has (g2.has b1))).call fun v h6 ⟨e, g6⟩ => ?_
 subst e
 have hany : ((zs l).any fun x => decide (x < 0) || decide (x ≥ (n : Int))) = false := by
  rw [List.any_eq_false]
  intro x hx
  unfold zs at hx
  rw [List.mem_map] at hx
  obtain ⟨y, hy, rfl⟩ := hx
  have := hl y hy
  simp
  omega
 rw [hany]
 refine Runs.step (seen rfl) (Runs.ifF rfl ?_)
 rw [q.len, zs_len]
 have V6 : Vec h6 t i (List.replicate ((n + 63) / 64) 0) := ((V.grow g4).updr (by omega) u5).grow g6
 exact kxm q hl hn (b := h1.blks.size) (c := h3.blks.size) (i := i) (by omega) (by omega) (by omega) (by omega) (by omega) l.length 0 (by omega) h6 _ (G5.trans g6) ⟨_, rfl, g6.has (G25.has b2)⟩ (g6.has b5) V6 (by simp) (fun m => by rw [kyc]; simp)
end
end Go.Ab

/- squeezed -/
set_option linter.unusedVariables false
set_option linter.unusedSimpArgs false
set_option maxRecDepth 10000
namespace Go.Ab
open Go.Proofs
def andL (n1 : Int) (w1 : List Nat) (n2 : Int) (w2 : List Nat) : List Nat := if btR n1 w1 && (btR n2 w2 && decide (n1 = n2)) then (btL n1 w1).filter (wbit w2) else []
def SetP (h0 : AH) (l : List Nat) (v : AV) (h' : AH) : Prop := Grow h0 h' ∧ ∃ (n : Int) (t : Sl) (w : List Nat) (e : Int), v = .tup [.agg [.int .i64 n, t.v], .int .i64 e] ∧ Nats h' t w ∧ Own h0 t ∧ btL n w = l
theorem kyr : btL 0 [] = [] := by
 unfold btL
 split <;> rfl
section
variable {h0 : AH} {s1 s2 : Sl} {w1 w2 : List Nat} {n1 n2 : Int}
theorem k7u (N1 : Nats h0 s1 w1) (N2 : Nats h0 s2 w2) (hl : w1.length = w2.length) (hs : w1.length ≤ 2000) {b1 b2 b3 b4 i : Nat} {t : Sl} {x1 x2 : Int} (i1 : b1 ≠ i) (i2 : b2 ≠ i) (i3 : b3 ≠ i) (i4 : b4 ≠ i) (h3 : h0.blks.size ≤ b3) (hi : h0.blks.size ≤ i) : ∀ (k j : Nat), j + k = w1.length → ∀ (h : AH) (w : List Nat), Grow h0 h → h.has b1 [.int .i64 x1, s1.v] T.kn → h.has b2 [.int .i64 x2, s2.v] T.kn → (∃ cs : List AV, cs.length = 2 ∧ h.has b3 cs T.kn) → h.has b4 [.int .i64 n1, t.v] T.kn → Vec h t i w → w.length = w1.length → (∀ m, m / 64 < j → wbit w m = (wbit w1 m && wbit w2 m)) →
  Runs (go (.pt F.kgt Td.kk8 [(2, .func (.func F.kea) [] []), (3, .ptr (some (.new b1 0))), (4, .ptr (some (.new b2 0))), (6, .ptr (some (.new b3 0))), (8, .ptr (some (.new b4 0))), (9, .int .i64 0), (35, .int .i64 (w1.length : Int)), (36, .int .i64 (j : Int))]) h) fun v h' => Grow h0 h' ∧ ∃ (t : Sl) (w : List Nat), v = .tup [.agg [.int .i64 n1, t.v], .int .i64 0] ∧ Nats h' t w ∧ w.length = w1.length ∧ Own h0 t ∧ ∀ m, wbit w m = (wbit w1 m && wbit w2 m) := by
 intro k
 induction k with
 | zero =>
  intro j hj h w g B1 B2 ⟨cs, hcs, B3⟩ B4 V hw hm
  obtain rfl : j = w1.length := by omega
  rw [ksc]
  refine Runs.ifF (decide_eq_false (by omega)) (Runs.step (B4.rd 0 rfl (kc _ _)) (Runs.step (B4.rd 1 rfl (asSl_v _)) ?_))
  refine Runs.puts B3 (by rw [hcs]; rfl) fun h1 B5 u1 => ?_
  refine Runs.step (B5.rd 0 rfl (kc _ _)) (Runs.step (B5.rd 1 rfl (asSl_v _)) (Runs.ret ⟨g.updr h3 u1, t, w, rfl, (V.updr (fun e => i3 e.symm) u1).nats, hw, V.own hi, fun m => ?_⟩))
  rcases Nat.lt_or_ge (m / 64) w1.length with h' | h'
  ·exact hm m h'
  ·rw [kr7 (by omega), kr7 (w := w1) h']; rfl
 | succ k ih =>
  intro j hj h w g B1 B2 ⟨cs, hcs, B3⟩ B4 V hw hm
  have j1 : j < w1.length := by omega
  have j2 : j < w2.length := by omega
  obtain ⟨r1, e1, e2⟩ := (N1.grow g).rdN j1
  obtain ⟨r2, e3, e4⟩ := (N2.grow g).rdN j2
  rw [ksc]
  refine Runs.ifT (decide_eq_true (by omega)) (Runs.step (B4.rd 1 rfl (asSl_v _)) (Runs.step (B1.rd 1 rfl (asSl_v _)) (Runs.step e1 (Runs.step e2 (Runs.step (B2.rd 1 rfl (asSl_v _)) (Runs.step e3 (Runs.step e4 ?_)))))))
  have a1 : w1[j] < 18446744073709551616 := N1.lt _ (List.getElem_mem j1)
  have a2 : w2[j] < 18446744073709551616 := N2.lt _ (List.getElem_mem j2)
  refine Runs.step (kbat _ _ _) (Runs.step (seen rfl) ?_)
  rw [kpw a1 a2]
  refine Runs.when ((Grow.refl h).same B4 1 1) ?_
  rw [V.len]
  have hq : j < w.length := by omega
  have hlt : w1[j] &&& w2[j] < 18446744073709551616 := Nat.lt_of_le_of_lt Nat.and_le_left a1
  refine Runs.step (V.idx rfl (kw hq)) (Runs.vput V rfl (kw hq) (kz hlt) fun h1 V1 u1 => ?_)
  rw [kf (by omega)]
  refine ih (j + 1) (by omega) h1 _ (g.updr hi u1) (B1.updr i1 u1) (B2.updr i2 u1) ⟨cs, hcs, B3.updr i3 u1⟩ (B4.updr i4 u1) V1 (by rw [List.length_set]; exact hw) fun m hm' => ?_
  rw [kbai hq]
  split
  ·rename_i hmj
   subst hmj
   rw [Nat.testBit_and]
   unfold wbit
   simp [List.getD, j1, j2]
  ·exact hm m (by omega)
theorem k1h (N1 : Nats h0 s1 w1) (N2 : Nats h0 s2 w2) : Runs (go (.fn F.kgt [.agg [.int .i64 n1, s1.v], .agg [.int .i64 n2, s2.v], .func (.func F.kea) [] []]) h0) (SetP h0 (andL n1 w1 n2 w2)) := by
 rw [kbbe]
 refine Runs.new fun h1 b1 g1 => Runs.new fun h2 b2 g2 => Runs.new fun h3 b3 g3 => ?_
 have B1 := g3.has (g2.has b1)
 have B2 := g3.has b2
 have G3 : Grow h0 h3 := (g1.trans g2).trans g3
 have s1' : h0.blks.size < h1.blks.size := b1.lt
 have s2' : h1.blks.size < h2.blks.size := b2.lt
 have s3' : h2.blks.size < h3.blks.size := b3.lt
 refine Runs.step (B1.rd 0 rfl (kc _ _)) (Runs.step (B1.rd 1 rfl (asSl_v _)) ?_)
 refine (kkf (N1.grow G3)).call fun v h4 ⟨e, g4⟩ => ?_
 subst e
 refine Runs.step (seen rfl) ?_
 have bad : ∀ {h : AH}, Grow h3 h → andL n1 w1 n2 w2 = [] → Runs ((h.puts (Ref.new h2.blks.size 0) [.int .i64 0, (⟨none, 0, .is 0⟩ : Sl).v]).bind fun h12 =>
   ((h12.cell ((Ref.new h2.blks.size 0).add 0)).bind (AV.asInt .i64)).bind fun n13 => ((h12.cell ((Ref.new h2.blks.size 0).add 1)).bind AV.asSl).bind fun l14 => some (.tup [.agg [.int .i64 n13, l14.v], .int .i64 1], h12)) (SetP h0 (andL n1 w1 n2 w2)) := by
  intro h g e
  refine Runs.puts (g.has b3) rfl fun h' b' u' => Runs.step (b'.rd 0 rfl (kc _ _)) (Runs.step (b'.rd 1 rfl (asSl_v _)) (Runs.ret ⟨(G3.trans g).updr (by omega) u', 0, _, [], 1, rfl, Nats.nil _, Own.nil _, ?_⟩))
  rw [e, kyr]
 refine Runs.cond (fun c => bad g4 ?_) fun c => ?_
 ·rw [Bool.not_eq_true'] at c
  unfold andL
  rw [c]; rfl
 rw [Bool.not_eq_false'] at c
 have B2' := g4.has B2
 refine Runs.step (B2'.rd 0 rfl (kc _ _)) (Runs.step (B2'.rd 1 rfl (asSl_v _)) ?_)
 refine (kkf (N2.grow (G3.trans g4))).call fun v h5 ⟨e, g5⟩ => ?_
 subst e
 refine Runs.step (seen rfl) ?_
 have g35 : Grow h3 h5 := g4.trans g5
 refine Runs.cond (fun c2 => bad g35 ?_) fun c2 => ?_
 ·rw [Bool.not_eq_true'] at c2
  unfold andL
  rw [c, c2]; rfl
 rw [Bool.not_eq_false'] at c2
 refine Runs.step ((g35.has B1).rd 0 rfl (kc _ _)) (Runs.step ((g35.has B2).rd 0 rfl (kc _ _)) ?_)
 refine Runs.cond (fun c3 => bad g35 ?_) fun c3 => ?_
 ·rw [Bool.not_eq_true', decide_eq_false_iff_not] at c3
  unfold andL
  rw [c, c2, decide_eq_false c3]; rfl
 rw [Bool.not_eq_false', decide_eq_true_eq] at c3
 subst c3
 obtain ⟨p0, p1, p2, p3⟩ := btR_n c
 obtain ⟨-, -, q2, q3⟩ := btR_n c2
 obtain ⟨z, rfl⟩ : ∃ z : Nat, n1 = (z : Int) := ⟨n1.toNat, by omega⟩
 rw [Int.toNat_natCast] at p2 q2 p3 q3
 refine Runs.step ((g35.has B1).rd 0 rfl (kc _ _)) ?_
 refine (kt8 (n := z) (by omega)).call fun v h6 ⟨g6, t, i, e, hi, V⟩ => ?_
 have hi : h5.blks.size ≤ i := hi
 subst e
 refine Runs.step rfl (Runs.step rfl (Runs.ifT rfl (Runs.step rfl (Runs.step (seenAt rfl (asSl_v _)) (Runs.step rfl ?_)))))
 dsimp only
 refine Runs.new fun h7 b7 g7 => Runs.puts b7 rfl fun h8 b8 u8 => Runs.step (b8.rd 1 rfl (asSl_v _)) ?_
 have s6 : i < h6.blks.size := V.inn
 have s5 : h3.blks.size ≤ h5.blks.size := g35.size
 have s6' : h5.blks.size ≤ h6.blks.size := g6.size
 have g38 : Grow h3 h8 := ((g35.trans g6).trans g7).updr (by omega) u8
 have V8 : Vec h8 t i (List.replicate ((z + 63) / 64) 0) := (V.grow g7).updr (by omega) u8
 rw [V8.len, List.length_replicate, ← p2]
 have := k7u (n1 := (z : Int)) (x1 := (z : Int)) (x2 := (z : Int)) N1 N2 (by omega) (by omega) (b1 := h0.blks.size) (b2 := h1.blks.size) (b3 := h2.blks.size) (b4 := h6.blks.size) (i := i) (t := t) (by omega) (by omega) (by omega) (by omega) (by omega) (by omega) w1.length 0 (by omega) h8 _ (G3.trans g38) (g38.has B1) (g38.has B2) ⟨_, rfl, g38.has b3⟩ b8 V8 (by rw [List.length_replicate, p2]) (fun m hm => absurd hm (Nat.not_lt_zero _))
 refine this.imp fun v h' ⟨g, t', w, e, N, hw, o, hm⟩ => ⟨g, (z : Int), t', w, 0, e, N, o, ?_⟩
 have hR : btR (z : Int) w = true := btR_of p0 p1 (by rw [Int.toNat_natCast]; omega) fun m hm1 hm2 => by
  rw [hm, p3 m (by omega) hm2]; rfl
 unfold andL btL
 rw [hR, c, c2, decide_eq_true rfl, Int.toNat_natCast]
 simp only [Bool.and_self, if_true, List.filter_filter]
 apply List.filter_congr
 intro x _
 rw [hm, Bool.and_comm]
theorem kw3 (N1 : Nats h0 s1 w1) (N2 : Nats h0 s2 w2) : Runs (go (.fn F.kko [.agg [.int .i64 n1, s1.v], .agg [.int .i64 n2, s2.v]]) h0) (SetP h0 (andL n1 w1 n2 w2)) := by
 rw [k1b]
 refine Runs.new fun h1 b1 g1 => Runs.new fun h2 b2 g2 => Runs.new fun h3 b3 g3 => ?_
 have B1 := g3.has (g2.has b1)
 have B2 := g3.has b2
 have G3 : Grow h0 h3 := (g1.trans g2).trans g3
 refine Runs.step (B1.rd 0 rfl (kc _ _)) (Runs.step (B1.rd 1 rfl (asSl_v _)) (Runs.step (B2.rd 0 rfl (kc _ _)) (Runs.step (B2.rd 1 rfl (asSl_v _)) ?_)))
 refine (k1h (N1.grow G3) (N2.grow G3)).call fun v h4 ⟨g4, n, t, w, e, he, N, ho, hb⟩ => ?_
 subst he
 refine Runs.step rfl (Runs.step rfl (Runs.ifT rfl (Runs.step rfl (Runs.step (seenAt rfl (asSl_v _)) (Runs.step rfl ?_)))))
 dsimp only
 have s1 : h0.blks.size < h1.blks.size := b1.lt
 have s2 : h1.blks.size < h2.blks.size := b2.lt
 refine Runs.puts (g4.has b3) rfl fun h5 b5 u5 => Runs.step (b5.rd 0 rfl (kc _ _)) (Runs.step (b5.rd 1 rfl (asSl_v _)) (Runs.ret ⟨(G3.trans g4).updr (by omega) u5, n, t, w, e, rfl, N.updr ho b3.lt u5, ho.of_le G3, hb⟩))
end
end Go.Ab

/- squeezed -/
set_option linter.unusedVariables false
set_option linter.unusedSimpArgs false
set_option maxRecDepth 10000
namespace Go.Ab
open Go.Proofs
theorem kd4 {t : Tb} (h : tabR t = true) : t.ids.length ≤ 256 ∧ t.cols.length ≤ 16 ∧ t.bins.length = t.cols.length ∧ ∀ i, i < t.cols.length → colR t i = true := by
 unfold tabR idsR at h
 simp only [Bool.and_eq_true, decide_eq_true_eq, List.all_eq_true, List.mem_range, Bool.not_eq_true', decide_eq_false_iff_not] at h
 exact ⟨h.1.1.1.1, by omega, h.1.2, h.2⟩
theorem kfd {t : Tb} {i : Nat} (h : colR t i = true) (hi : i < t.cols.length) (hb : t.bins.length = t.cols.length) : ∃ hb' : i < t.bins.length, 2 ≤ t.bins[i] ∧ t.bins[i] ≤ 32 ∧ t.cols[i].length = t.ids.length := by
 unfold colR at h
 have hb' : i < t.bins.length := by omega
 simp only [Bool.and_eq_true, decide_eq_true_eq, Bool.not_eq_true', decide_eq_false_iff_not, List.getD, List.getElem?_eq_getElem hi, List.getElem?_eq_getElem hb', Option.getD_some] at h
 exact ⟨hb', by omega, by omega, h.1.2⟩
def leftP (t : Tb) (f : Nat) (c : Int) (i : Nat) : Bool := decide ((t.cols.getD f []).getD i 0 ≤ c)
def leftR (t : Tb) (f : Nat) (c : Int) : List Nat := (List.range t.ids.length).filter (leftP t f c)
section
variable {h0 : AH} {S : Fp} {s1 s2 s3 : Sl} {t : Tb}
theorem k5z {s : Sl} {f : Nat} {c : Int} (hf : f < t.cols.length) (hc : t.cols[f].length = t.ids.length) (hids : t.ids.length ≤ 256) (q : Sq EI h0 S s t.cols[f]) {b1 b2 : Nat} {cs2 : List AV} (n1 : Sq EI h0 S s1 t.ids) (B1 : h0.has b1 [s1.v, s2.v, s3.v] T.ku) (B2 : h0.has b2 [.int .i64 0, (⟨none, 0, .is 0⟩ : Sl).v] T.kn) {ha : AH} (ga : Grow ha h0) (hb2 : ha.blks.size ≤ b2) : ∀ (k i : Nat), i + k = t.ids.length → ∀ (h : AH) (x : Sl) (j : Option Nat), Grow h0 h → LeO h0.blks.size j → GF EI T.int h Fp.no x j (zs ((List.range i).filter (leftP t f c))) →
  Runs (go (.pt F.kei Td.kip [(2, .int .i64 c), (3, .ptr (some (.new b1 0))), (6, .ptr (some (.new b2 0))), (8, x.v), (44, s.v), (45, .int .i64 (t.ids.length : Int)), (46, .int .i64 (i : Int))]) h) fun v h' => Grow ha h' ∧ ∃ (y : Sl) (w : List Nat), v = .tup [.agg [.int .i64 (t.ids.length : Int), y.v], .int .i64 0] ∧ Nats h' y w ∧ Own ha y ∧ w.length = (t.ids.length + 63) / 64 ∧ ∀ m, wbit w m = decide (m ∈ leftR t f c) := by
 intro k
 induction k with
 | zero =>
  intro i hi h x j g lj V
  obtain rfl : i = t.ids.length := by omega
  rw [kqv]
  refine Runs.ifF (decide_eq_false (by omega)) (Runs.step ((g.has B1).rd 0 rfl (asSl_v _)) ?_)
  rw [n1.len]
  refine (kz0 (S := Fp.or (Fp.opt j) Fp.no) (l := leftR t f c) (n := t.ids.length) V.sq (fun y hy => ?_) (by omega)).call fun v h1 ⟨g1, y, w, e, N, hw, o, hm⟩ => ?_
  ·unfold leftR at hy
   rw [List.mem_filter, List.mem_range] at hy
   exact hy.1
  subst e
  refine Runs.step rfl (Runs.step rfl (Runs.ifT rfl (Runs.step rfl (Runs.step (seenAt rfl (asSl_v _)) (Runs.step rfl ?_)))))
  dsimp only
  have hlt := (g.has B2).lt
  refine Runs.puts (g1.has (g.has B2)) rfl fun h2 b2' u2 => Runs.step (b2'.rd 0 rfl (kc _ _)) (Runs.step (b2'.rd 1 rfl (asSl_v _)) (Runs.ret ⟨?_, y, w, rfl, N.updr o hlt u2, ?_, hw, hm⟩))
  ·exact ((ga.trans g).trans g1).updr hb2 u2
  ·exact o.of_le (ga.trans g)
 | succ k ih =>
  intro i hi h x j g lj V
  have hi' : i < t.cols[f].length := by omega
  obtain ⟨r, e1, e2⟩ := (q.grow g).int hi'
  rw [q.len, hc] at e1
  rw [kqv]
  have hp : leftP t f c i = decide (t.cols[f][i] ≤ c) := by
   unfold leftP
   simp [List.getD, hf, hi']
  have hr : (List.range (i + 1)).filter (leftP t f c) = (List.range i).filter (leftP t f c) ++ if leftP t f c i then [i] else [] := by
   rw [List.range_succ, List.filter_append]
   cases hq : leftP t f c i <;> simp [hq]
  have hlen : (zs ((List.range i).filter (leftP t f c))).length ≤ i := by
   rw [zs_len]
   exact Nat.le_trans (List.length_filter_le _ _) (by simp)
  refine Runs.ifT (decide_eq_true (by omega)) ?_
  rw [q.len, hc]
  refine Runs.step e1 (Runs.step e2 (Runs.cond (fun k1 => ?_) fun k1 => ?_))
  ·refine Runs.new fun h2 b2 g2 => ?_
   refine Runs.step (kfw b2 (by rw [kh1]; rfl)) ?_
   have V2 := V.grow g2
   obtain ⟨y, h3, e3, V3, u3⟩ := V2.push (T := Fp.no) (cs := [.int .i64 (i : Int)]) (x := (i : Int)) rfl NotO.no (kp6 (by omega))
   refine Runs.step e3 (Runs.step (asSl_v _) ?_)
   rw [kf (by omega)]
   refine ih (i + 1) (by omega) h3 y (some h2.blks.size) ((g.trans g2).updo lj u3) (show _ ≤ _ from (g.trans g2).size) ?_
   rw [hr, hp, k1, if_pos rfl, zs_app]
   exact V3.mono (fun j x => x.1.elim id id) NotO.no
  ·rw [kf (by omega)]
   refine ih (i + 1) (by omega) h x j g lj ?_
   rw [hr, hp, k1]
   simpa using V
theorem k1e (n : TabAt h0 S s1 s2 s3 t) (hR : tabR t = true) {f : Nat} {c : Nat} (hf : f < t.cols.length) (hc : (c : Int) < t.bins.getD f 0) : Runs (go (.fn F.kei [.agg [s1.v, s2.v, s3.v], .int .i64 (f : Int), .int .i64 (c : Int)]) h0) fun v h' => Grow h0 h' ∧ ∃ (y : Sl) (w : List Nat), v = .tup [.agg [.int .i64 (t.ids.length : Int), y.v], .int .i64 0] ∧ Nats h' y w ∧ Own h0 y ∧ w.length = (t.ids.length + 63) / 64 ∧ ∀ m, wbit w m = decide (m ∈ leftR t f (c : Int)) := by
 obtain ⟨hids, hcols, hbins, hall⟩ := kd4 hR
 obtain ⟨hb, h2, h32, hcl⟩ := kfd (hall f hf) hf hbins
 rw [k8h]
 refine Runs.new fun h1 b1 g1 => Runs.new fun h2 b2 g2 => ?_
 have B1 := g2.has b1
 refine Runs.step (B1.rd 0 rfl (asSl_v _)) (Runs.step (B1.rd 1 rfl (asSl_v _)) (Runs.step (B1.rd 2 rfl (asSl_v _)) ?_))
 refine (kuy (n.grow (g1.trans g2))).call fun v h3 ⟨e, g3⟩ => ?_
 subst e
 rw [hR]
 refine Runs.step (seen rfl) (Runs.ifF rfl (Runs.ifF (decide_eq_false (by omega)) ?_))
 have G3 : Grow h0 h3 := (g1.trans g2).trans g3
 have B1' := g3.has B1
 refine Runs.step (B1'.rd 2 rfl (asSl_v _)) ?_
 rw [n.cols.len]
 refine Runs.ifF (decide_eq_false (by omega)) (Runs.ifF (decide_eq_false (by omega)) (Runs.step (B1'.rd 1 rfl (asSl_v _)) ?_))
 obtain ⟨r, e1, e2⟩ := (n.bins.grow G3).int hb
 have hgd : t.bins.getD f 0 = t.bins[f] := by simp [List.getD, hb]
 rw [hgd] at hc
 refine Runs.step e1 (Runs.step e2 (Runs.ifF (decide_eq_false (by omega)) (Runs.step (B1'.rd 2 rfl (asSl_v _)) ?_)))
 obtain ⟨r2, s', e3, e4, -, q⟩ := (n.cols.grow G3).sl hf
 refine Runs.step e3 (Runs.step e4 ?_)
 rw [q.len, hcl]
 have s1' := b1.lt
 exact k5z (cs2 := []) hf hcl hids q ((n.grow G3).ids) B1' (g3.has b2) G3 (by have := g1.size; omega) t.ids.length 0 (by omega) h3 _ none (Grow.refl h3) trivial (GF.none _ _ _ _)
end
end Go.Ab

/- squeezed -/
set_option linter.unusedVariables false
set_option linter.unusedSimpArgs false
set_option maxRecDepth 10000
namespace Go.Ab
open Go.Proofs
def nb (t : Tb) (f : Nat) : Nat := (t.bins.getD f 0).toNat - 1
def cutsTo (t : Tb) (f : Nat) : List (Nat × Nat) := (List.range f).flatMap fun f => (List.range (nb t f)).map fun c => (f, c)
def cutsL (t : Tb) : List (Nat × Nat) := if tabR t then cutsTo t t.cols.length else []
def rowsL (t : Tb) (n : Int) (w : List Nat) (p : Nat × Nat) : List Nat := if btR n w && decide ((t.ids.length : Int) = n) then (leftR t p.1 (p.2 : Int)).filter (wbit w) else []
theorem kof (t : Tb) (f : Nat) : cutsTo t (f + 1) = cutsTo t f ++ (List.range (nb t f)).map fun c => (f, c) := by
 unfold cutsTo
 rw [List.range_succ, List.flatMap_append]
 simp
theorem kj9 (t : Tb) : ∀ f : Nat, (∀ i, i < f → nb t i ≤ 31) → (cutsTo t f).length ≤ 31 * f
 | 0, _ => by simp [cutsTo]
 | f + 1, h => by
  rw [kof, List.length_append, List.length_map, List.length_range]
  have := kj9 t f fun i hi => h i (by omega)
  have := h f (by omega)
  omega
section
variable {S : Fp} {s1 s2 s3 s : Sl} {t : Tb} {n : Int} {w : List Nat} {l b1 b2 : Nat}
structure EachOk (S : Fp) (s1 s2 s3 s : Sl) (t : Tb) (n : Int) (w : List Nat) (b1 b2 : Nat) (h : AH) : Prop where
 tab : Tab h
 at' : TabAt h S s1 s2 s3 t
 nats : Nats h s w
 has1 : h.has b1 [s1.v, s2.v, s3.v] T.ku
 has2 : h.has b2 [.int .i64 n, s.v] T.kn
theorem EachOk.grow {h h' : AH} (e : EachOk S s1 s2 s3 s t n w b1 b2 h) (g : Grow h h') : EachOk S s1 s2 s3 s t n w b1 b2 h' := ⟨e.tab.grow g, e.at'.grow g, e.nats.grow g, g.has e.has1, g.has e.has2⟩
theorem k92 {h : AH} (E : EachOk S s1 s2 s3 s t n w b1 b2 h) (hR : tabR t = true) {f c : Nat} (hf : f < t.cols.length) (hc : (c : Int) < t.bins.getD f 0) {K : Sl → AH → Option (AV × AH)} {P : AV → AH → Prop} (H : ∀ (y : Sl) (j : Option Nat) (h' : AH), Grow h h' → GF EI T.int h' Fp.no y j (zs (rowsL t n w (f, c))) → Runs (K y h') P) :
  Runs (((h.cell ((Ref.new b1 0).add 0)).bind AV.asSl).bind fun l10 =>
   ((h.cell ((Ref.new b1 0).add 1)).bind AV.asSl).bind fun l11 =>
   ((h.cell ((Ref.new b1 0).add 2)).bind AV.asSl).bind fun l12 =>
   (go (.fn F.kei [.agg [l10.v, l11.v, l12.v], .int .i64 (f : Int), .int .i64 (c : Int)]) h).bind fun q13 =>
   (AV.asTup2 q13.1).bind fun p14 =>
   (AV.asAgg p14.1).bind fun cs15 =>
   cond (Nat.beq cs15.length 2) (
   ((cs15[0]?).bind (AV.asInt .i64)).bind fun n16 =>
   ((cs15[1]?).bind AV.asSl).bind fun l17 =>
   ((some p14.2).bind (AV.asInt .i64)).bind fun n18 =>
   newK q13.2 (.cells [.int .i64 0, (⟨none, 0, .is 0⟩ : Sl).v] T.kn) fun h19r h19 =>
   (h19.puts h19r [.int .i64 n16, l17.v]).bind fun h20 =>
   ((h20.cell (h19r.add 0)).bind (AV.asInt .i64)).bind fun n21 =>
   ((h20.cell (h19r.add 1)).bind AV.asSl).bind fun l22 =>
   ((h20.cell ((Ref.new b2 0).add 0)).bind (AV.asInt .i64)).bind fun n23 =>
   ((h20.cell ((Ref.new b2 0).add 1)).bind AV.asSl).bind fun l24 =>
   (go (.fn F.kko [.agg [.int .i64 n21, l22.v], .agg [.int .i64 n23, l24.v]]) h20).bind fun q25 =>
   (AV.asTup2 q25.1).bind fun p26 =>
   (AV.asAgg p26.1).bind fun cs27 =>
   cond (Nat.beq cs27.length 2) (
   ((cs27[0]?).bind (AV.asInt .i64)).bind fun n28 =>
   ((cs27[1]?).bind AV.asSl).bind fun l29 =>
   ((some p26.2).bind (AV.asInt .i64)).bind fun n30 =>
   (q25.2.puts h19r [.int .i64 n28, l29.v]).bind fun h31 =>
   ((h31.cell (h19r.add 0)).bind (AV.asInt .i64)).bind fun n32 =>
   ((h31.cell (h19r.add 1)).bind AV.asSl).bind fun l33 =>
   (go (.fn F.kk3 [.agg [.int .i64 n32, l33.v]]) h31).bind fun q34 =>
   ((some q34.1).bind AV.asSl).bind fun l35 => K l35 q34.2) none) none) P := by
 refine Runs.step (E.has1.rd 0 rfl (asSl_v _)) (Runs.step (E.has1.rd 1 rfl (asSl_v _)) (Runs.step (E.has1.rd 2 rfl (asSl_v _)) ?_))
 refine (k1e E.at' hR hf hc).call fun v h1 ⟨g1, y1, w1, e, N1, o1, l1, m1⟩ => ?_
 subst e
 refine Runs.step rfl (Runs.step rfl (Runs.ifT rfl (Runs.step rfl (Runs.step (seenAt rfl (asSl_v _)) (Runs.step rfl ?_)))))
 dsimp only
 refine Runs.new fun h2 b3 g2 => Runs.puts b3 rfl fun h3 b4 u3 => ?_
 have G3 : Grow h1 h3 := g2.updr (Nat.le_refl _) u3
 have E3 := E.grow (g1.trans G3)
 refine Runs.step (b4.rd 0 rfl (kc _ _)) (Runs.step (b4.rd 1 rfl (asSl_v _)) (Runs.step (E3.has2.rd 0 rfl (kc _ _)) (Runs.step (E3.has2.rd 1 rfl (asSl_v _)) ?_)))
 refine (kw3 (N1.grow G3) E3.nats).call fun v h4 ⟨g4, n4, y4, w4, e4, he, N4, o4, hb⟩ => ?_
 subst he
 refine Runs.step rfl (Runs.step rfl (Runs.ifT rfl (Runs.step rfl (Runs.step (seenAt rfl (asSl_v _)) (Runs.step rfl ?_)))))
 dsimp only
 refine Runs.puts (g4.has b4) rfl fun h5 b5 u5 => Runs.step (b5.rd 0 rfl (kc _ _)) (Runs.step (b5.rd 1 rfl (asSl_v _)) ?_)
 have G5 : Grow h1 h5 := (G3.trans g4).updr (Nat.le_refl _) u5
 have G05 : Grow h h5 := g1.trans G5
 refine (kyt (n := n4) (E.tab.grow G05) (N4.updr o4 b4.lt u5)).call fun v h6 ⟨g6, y6, j6, e, lj, V⟩ => ?_
 subst e
 refine Runs.step (seen (asSl_v _)) ?_
 refine H y6 j6 h6 (G05.trans g6) ?_
 rw [hb] at V
 have hids := (kd4 hR).1
 have hov : ∀ i, t.ids.length ≤ i → wbit w1 i = false := fun i hi => by
  rw [m1, decide_eq_false]
  intro hm
  unfold leftR at hm
  rw [List.mem_filter, List.mem_range] at hm
  omega
 have hR1 : btR (t.ids.length : Int) w1 = true := btR_of (by omega) (by omega) (by rw [Int.toNat_natCast]; exact l1) fun i _ hi => hov i (by rw [Int.toNat_natCast] at hi; exact hi)
 have hL1 : btL (t.ids.length : Int) w1 = leftR t f (c : Int) := by
  unfold btL
  rw [hR1, if_pos rfl, Int.toNat_natCast]
  unfold leftR
  apply List.filter_congr
  intro i hi
  rw [m1]
  unfold leftR
  rw [Bool.eq_iff_iff, decide_eq_true_eq, List.mem_filter]
  exact ⟨fun h => h.2, fun h => ⟨hi, h⟩⟩
 have : andL (t.ids.length : Int) w1 n w = rowsL t n w (f, c) := by
  unfold andL rowsL
  rw [hR1, hL1, Bool.true_and]
 rw [this] at V
 exact V
theorem k5h {Inv : List (Nat × Nat) → AH → Prop} (hE : ∀ d h, Inv d h → EachOk S s1 s2 s3 s t n w b1 b2 h) (hG : ∀ d h h', Inv d h → Grow h h' → Inv d h') (hR : tabR t = true)
  (hround : ∀ (d : List (Nat × Nat)) (f c : Nat) (h : AH) (y : Sl) (j : Option Nat), f < t.cols.length → (c : Int) < t.bins.getD f 0 → d.length < 1000 → Inv d h → GF EI T.int h Fp.no y j (zs (rowsL t n w (f, c))) → Runs (go (.round l [.agg [.int .i64 (f : Int), .int .i64 (c : Int)], y.v]) h) fun v h' => v = .bool true ∧ Inv (d ++ [(f, c)]) h')
  {f : Nat} (hf : f < t.cols.length) {P : AV → AH → Prop} (hP : ∀ h, Inv (cutsTo t (f + 1)) h → Runs (go (.pt F.kbh Td.kie [(0, .func (.yield l) [] []), (1, .ptr (some (.new b1 0))), (2, .ptr (some (.new b2 0))), (10, s2.v), (11, .int .i64 (t.bins.length : Int)), (12, .int .i64 ((f + 1 : Nat) : Int))]) h) P) :
  ∀ (k c : Nat), c + k = nb t f → ∀ h, Inv (cutsTo t f ++ (List.range c).map fun c => (f, c)) h →
  Runs (go (.pt F.kbh Td.kib [(0, .func (.yield l) [] []), (1, .ptr (some (.new b1 0))), (2, .ptr (some (.new b2 0))), (4, .int .i64 (f : Int)), (10, s2.v), (11, .int .i64 (t.bins.length : Int)), (12, .int .i64 (f : Int)), (18, .int .i64 (nb t f : Int)), (19, .int .i64 (c : Int))]) h) P := by
 obtain ⟨hids, hcols, hbins, hall⟩ := kd4 hR
 obtain ⟨hb, hb2, hb32, hcl⟩ := kfd (hall f hf) hf hbins
 have hgd : t.bins.getD f 0 = t.bins[f] := by simp [List.getD, hb]
 have hnb : (nb t f : Int) = t.bins[f] - 1 := by
  unfold nb
  rw [hgd]
  omega
 have hlen : (cutsTo t f).length ≤ 31 * f := kj9 t f fun i hi => by
  obtain ⟨hb', h2', h32', -⟩ := kfd (hall i (by omega)) (by omega) hbins
  have : t.bins.getD i 0 = t.bins[i] := by simp [List.getD, hb']
  unfold nb
  rw [this]
  omega
 intro k
 induction k with
 | zero =>
  intro c hc h I
  obtain rfl : c = nb t f := by omega
  rw [← kof] at I
  rw [ksv]
  refine Runs.ifF (decide_eq_false (by omega)) ?_
  rw [kf (by omega)]
  exact hP h I
 | succ k ih =>
  intro c hc h I
  rw [ksv]
  refine Runs.ifT (decide_eq_true (by omega)) ?_
  have hcb : (c : Int) < t.bins.getD f 0 := by rw [hgd]; omega
  refine k92 (hE _ _ I) hR hf hcb (K := fun y h' => (go (.round l [.agg [.int .i64 (f : Int), .int .i64 (c : Int)], y.v]) h').bind fun q36 => ((some q36.1).bind AV.asBool).bind fun b37 => cond (!b37) (some (.tup [], q36.2)) (go (.pt F.kbh Td.kib [(0, .func (.yield l) [] []), (1, .ptr (some (.new b1 0))), (2, .ptr (some (.new b2 0))), (4, .int .i64 (f : Int)), (10, s2.v), (11, .int .i64 (t.bins.length : Int)), (12, .int .i64 (f : Int)), (18, .int .i64 (nb t f : Int)), (19, .int .i64 (IntKind.wrap .i64 ((c : Int) + 1)))]) q36.2)) fun y j h1 g1 V => ?_
  refine (hround _ f c h1 y j hf hcb ?_ (hG _ _ _ I g1) V).call fun v h2 ⟨e, I2⟩ => ?_
  ·rw [List.length_append, List.length_map, List.length_range]
   omega
  subst e
  refine Runs.step (seen rfl) (Runs.ifF rfl ?_)
  rw [kf (by omega)]
  refine ih (c + 1) (by omega) h2 ?_
  rw [List.range_succ, List.map_append, ← List.append_assoc]
  exact I2
theorem kzb {Inv : List (Nat × Nat) → AH → Prop} (hE : ∀ d h, Inv d h → EachOk S s1 s2 s3 s t n w b1 b2 h) (hG : ∀ d h h', Inv d h → Grow h h' → Inv d h') (hR : tabR t = true)
  (hround : ∀ (d : List (Nat × Nat)) (f c : Nat) (h : AH) (y : Sl) (j : Option Nat), f < t.cols.length → (c : Int) < t.bins.getD f 0 → d.length < 1000 → Inv d h → GF EI T.int h Fp.no y j (zs (rowsL t n w (f, c))) → Runs (go (.round l [.agg [.int .i64 (f : Int), .int .i64 (c : Int)], y.v]) h) fun v h' => v = .bool true ∧ Inv (d ++ [(f, c)]) h') :
  ∀ (k f : Nat), f + k = t.cols.length → ∀ h, Inv (cutsTo t f) h →
  Runs (go (.pt F.kbh Td.kie [(0, .func (.yield l) [] []), (1, .ptr (some (.new b1 0))), (2, .ptr (some (.new b2 0))), (10, s2.v), (11, .int .i64 (t.bins.length : Int)), (12, .int .i64 (f : Int))]) h) fun v h' => v = .tup [] ∧ Inv (cutsTo t t.cols.length) h' := by
 obtain ⟨hids, hcols, hbins, hall⟩ := kd4 hR
 intro k
 induction k with
 | zero =>
  intro f hf h I
  obtain rfl : f = t.cols.length := by omega
  rw [kte]
  exact Runs.ifF (decide_eq_false (by omega)) (Runs.ret ⟨rfl, I⟩)
 | succ k ih =>
  intro f hf h I
  have hf' : f < t.cols.length := by omega
  obtain ⟨hb, hb2, hb32, hcl⟩ := kfd (hall f hf') hf' hbins
  obtain ⟨r, e1, e2⟩ := (hE _ _ I).at'.bins.int hb
  rw [(hE _ _ I).at'.bins.len] at e1
  rw [kte]
  refine Runs.ifT (decide_eq_true (by omega)) ?_
  rw [(hE _ _ I).at'.bins.len]
  refine Runs.step e1 (Runs.step e2 ?_)
  have hgd : t.bins.getD f 0 = t.bins[f] := by simp [List.getD, hb]
  rw [wrap64 (by omega) (by omega), show t.bins[f] - 1 = (nb t f : Int) from by unfold nb; rw [hgd]; omega]
  exact k5h hE hG hR hround hf' (fun h I => ih (f + 1) (by omega) h I) (nb t f) 0 (by omega) h (by simpa using I)
theorem ku7 {Inv : List (Nat × Nat) → AH → Prop} (hE : ∀ d h, Inv d h → EachOk S s1 s2 s3 s t n w b1 b2 h) (hG : ∀ d h h', Inv d h → Grow h h' → Inv d h') (hR : tabR t = true)
  (hround : ∀ (d : List (Nat × Nat)) (f c : Nat) (h : AH) (y : Sl) (j : Option Nat), f < t.cols.length → (c : Int) < t.bins.getD f 0 → d.length < 1000 → Inv d h → GF EI T.int h Fp.no y j (zs (rowsL t n w (f, c))) → Runs (go (.round l [.agg [.int .i64 (f : Int), .int .i64 (c : Int)], y.v]) h) fun v h' => v = .bool true ∧ Inv (d ++ [(f, c)]) h') {h : AH} (I : Inv [] h) :
  Runs (go (.fn F.kbh [.func (.yield l) [] [], .ptr (some (.new b1 0)), .ptr (some (.new b2 0))]) h) fun v h' => v = .tup [] ∧ Inv (cutsL t) h' := by
 rw [kxy]
 refine Runs.step ((hE _ _ I).has1.rd 1 rfl (asSl_v _)) ?_
 rw [(hE _ _ I).at'.bins.len]
 unfold cutsL
 rw [hR, if_pos rfl]
 exact kzb hE hG hR hround t.cols.length 0 (by omega) h I
end
end Go.Ab

/- squeezed -/
set_option linter.unusedVariables false
set_option linter.unusedSimpArgs false
set_option maxRecDepth 10000
namespace Go.Ab
open Go.Proofs
@[reducible] def EP : Ef (Int × Int) := Ef.pair EI EI
def zc (l : List (Nat × Nat)) : List (Int × Int) := l.map fun p => ((p.1 : Int), (p.2 : Int))
theorem zc_len (l : List (Nat × Nat)) : (zc l).length = l.length := List.length_map _
theorem zc_app (l m : List (Nat × Nat)) : zc (l ++ m) = zc l ++ zc m := List.map_append
theorem kyo {n : Nat} (h : n ≤ 1000000) : growOk Pg n T.kcw 2 = true := by
 unfold growOk
 rw [k8z, k4f]
 have h1 : n * 16 ≤ ks := by simp only [ks]; omega
 have h2 : n * 2 ≤ ks := by simp only [ks]; omega
 have h3 : n ≤ ks := by simp only [ks]; omega
 simp [h1, h2, h3]
theorem EP.of {h : AH} {S : Fp} (a b : Int) : EP.has h S [.int .i64 a, .int .i64 b] (a, b) := ⟨[.int .i64 a], [.int .i64 b], rfl, rfl, rfl⟩
theorem Sq.two {h : AH} {S : Fp} {s : Sl} {xs : List (Int × Int)} (n : Sq EP h S s xs) {i : Nat} (hi : i < xs.length) : ∃ r : Ref, idx s.ref s.len (i : Int) 2 = some r ∧ (h.cell (r.add 0)).bind (AV.asInt .i64) = some xs[i].1 ∧ (h.cell (r.add 1)).bind (AV.asInt .i64) = some xs[i].2 := by
 obtain ⟨r, cs, e1, ⟨c1, c2, rfl, a1, a2⟩, l⟩ := n.at (kl6 hi)
 have a1 : c1 = [.int .i64 xs[i].1] := a1
 have a2 : c2 = [.int .i64 xs[i].2] := a2
 subst a1; subst a2
 rw [n.len]
 exact ⟨r, e1, l.rd (Grow.refl _) 0 rfl (kc _ _), l.rd (Grow.refl _) 1 rfl (kc _ _)⟩
structure Lp {α : Type} (E : Ef α) (elem tl : TypeId) (note : LoopState → ABlk) (hs : AH) (bo l : Nat) (xs : List α) (h : AH) : Prop where
 md : Md (fun m => m = bo ∨ m = l) hs h
 note : h.blks[l]? = some (note .ready)
 out : ∃ (t : Sl) (j : Option Nat), h.has bo [t.v] tl ∧ LeO hs.blks.size j ∧ GF E elem h Fp.no t j xs
section
variable {α : Type} {E : Ef α} {elem tl : TypeId} {note : LoopState → ABlk} {hs h : AH} {bo l : Nat} {xs : List α}
theorem Lp.grow {h' : AH} (L : Lp E elem tl note hs bo l xs h) (g : Grow h h') : Lp E elem tl note hs bo l xs h' :=
 ⟨L.md.thenG g, (g.blk l (Array.getElem?_eq_some_iff.1 L.note).1).trans L.note, L.out.imp fun _ ⟨j, B, lj, V⟩ => ⟨j, g.has B, lj, V.grow g⟩⟩
theorem k9a {t : Sl} {j : Option Nat} {x : α} {cs : List AV} {k : Nat} {e' : TypeId} (B : h.has bo [t.v] tl) (hn : h.blks[l]? = some (note .busy)) (hbl : bo ≠ l) (hbs : bo < hs.blks.size) (hls : l < hs.blks.size) (hsh : hs.blks.size ≤ h.blks.size) (lj : LeO hs.blks.size j) (V : GF E elem h Fp.no t j xs) (hx : E.has h Fp.no cs x) (hg : growOk Pg (xs.length + 1) elem E.w = true) (bx : h.has k cs e') (hcs : 1 * Pg.cellsOf elem = cs.length) (hend : ∀ h', h'.blks[l]? = some (note .busy) → kb4 l none h' = some (.bool true, h'.setBlk l (note .ready))) :
  Runs ((kbc Pg elem ((⟨some (.new k 0), 1, .is 1⟩ : Sl).v) h).bind fun p => (kr Pg t p.1 p.2 elem E.w h).bind fun q => (AV.asSl q.1).bind fun l12 => (q.2.puts (.new bo 0) [l12.v]).bind fun h13 => kb4 l none h13) fun v h' => v = .bool true ∧ Md (fun m => m = bo ∨ m = l ∨ j = some m) h h' ∧ h'.blks[l]? = some (note .ready) ∧ ∃ (t : Sl) (j : Option Nat), h'.has bo [t.v] tl ∧ LeO hs.blks.size j ∧ GF E elem h' Fp.no t j (xs ++ [x]) := by
 refine Runs.step (kfw bx hcs) ?_
 obtain ⟨t', h3, e3, V3, u3⟩ := V.push (T := Fp.no) hx NotO.no hg
 refine Runs.step e3 (Runs.step (asSl_v _) ?_)
 have m3 : Md (Fp.opt j) h h3 := u3.md fun k e => e
 have no : ∀ {m : Nat}, m < hs.blks.size → ¬ Fp.opt j m := fun hm e => kc3 hm lj _ e rfl
 have B3 : h3.has bo [t.v] tl := m3.has B (no hbs)
 have n3 : h3.blks[l]? = some (note .busy) := m3.get hn (no hls)
 refine Runs.puts B3 rfl fun h4 B4 u4 => ?_
 have n4 : h4.blks[l]? = some (note .busy) := (u4.blk l (fun e => hbl e.symm) (Array.getElem?_eq_some_iff.1 n3).1).trans n3
 rw [hend _ n4]
 have u5 : Upd h4 (h4.setBlk l (note .ready)) l := AH.setBlk_Upd _
 refine Runs.ret ⟨rfl, ?_, AH.setBlk_get (Array.getElem?_eq_some_iff.1 n4).1, t', some h.blks.size, B4.updr hbl u5, hsh, ?_⟩
 ·refine ((m3.mono fun m _ e => .inr (.inr e)).trans (u4.md (.inl rfl))).trans (u5.md (.inr (.inl rfl)))
 ·have V4 : GF E elem h3 Fp.no t' (some h.blks.size) (xs ++ [x]) := V3.mono (fun j x => x.1.elim id id) NotO.no
  exact (V4.upd u4 Fp.not_no fun k e => by cases e; omega).upd u5 Fp.not_no fun k e => by cases e; omega
theorem Lp.next {xs ys : List α} {h h1 h' : AH} {j : Option Nat} (m1 : Md (fun m => m = bo ∨ m = l) hs h1) (lj : LeO hs.blks.size j) (m2 : Md (fun m => m = bo ∨ m = l ∨ j = some m) h1 h') (hn : h'.blks[l]? = some (note .ready)) (o : ∃ (t : Sl) (j : Option Nat), h'.has bo [t.v] tl ∧ LeO hs.blks.size j ∧ GF E elem h' Fp.no t j ys) : Lp E elem tl note hs bo l ys h' :=
 ⟨m1.next m2 fun m hm t => t.elim .inl fun t => t.elim .inr fun e => absurd rfl (kc3 hm lj _ e), hn, o⟩
end
theorem EachOk.md {S T : Fp} {s1 s2 s3 s : Sl} {t : Tb} {n : Int} {w : List Nat} {b1 b2 : Nat} {h h' : AH} (e : EachOk S s1 s2 s3 s t n w b1 b2 h) (m : Md T h h') (d : Dis S T) (dn : ∀ j, ¬ Av s j w → S j) (n1 : ¬ T b1) (n2 : ¬ T b2) : EachOk S s1 s2 s3 s t n w b1 b2 h' :=
 ⟨e.tab.md m, e.at'.md m d, e.nats.mdE dn m d, m.has e.has1 n1, m.has e.has2 n2⟩
theorem TabAt.bound {h : AH} {S : Fp} {s1 s2 s3 : Sl} {t : Tb} (n : TabAt h S s1 s2 s3 t) : TabAt h (Fp.below h.blks.size) s1 s2 s3 t :=
 ⟨n.ids.bound.mono fun _ x => x.2, n.bins.bound.mono fun _ x => x.2, n.cols.bound.mono fun _ x => x.2⟩
section
variable {h0 : AH} {S : Fp} {s1 s2 s3 : Sl} {t : Tb}
end
end Go.Ab

/- squeezed -/
set_option linter.unusedVariables false
set_option linter.unusedSimpArgs false
set_option maxRecDepth 10000
namespace Go.Ab
open Go.Proofs
def faultH (t : Tb) (n : Int) (w : List Nat) (m : Int) : Int := if !tabR t then 20 else if !btR n w then 1 else if !decide (n = (t.ids.length : Int)) then 1 else if !decide (m = (t.ids.length : Int)) then 1 else 0
theorem kor {t : Tb} {n : Int} {w : List Nat} {m : Int} (h : faultH t n w m = 0) : tabR t = true ∧ btR n w = true ∧ n = (t.ids.length : Int) ∧ m = (t.ids.length : Int) := by
 unfold faultH at h
 grind
def sumG (g : List Int) (l : List Nat) (a : Int) : Int := l.foldl (fun a i => IntKind.wrap .i64 (a + g.getD i 0)) a
def sumsL (g : List Int) (R : Nat × Nat → List Nat) (l : List (Nat × Nat)) : List (Int × Int) := l.map fun p => (sumG g (R p) 0, ((R p).length : Int))
theorem k2q {n : Nat} (h : n ≤ 1000000) : growOk Pg n T.kbs 2 = true := by
 unfold growOk
 rw [k6w, k6m]
 have h1 : n * 16 ≤ ks := by simp only [ks]; omega
 have h2 : n * 2 ≤ ks := by simp only [ks]; omega
 have h3 : n ≤ ks := by simp only [ks]; omega
 simp [h1, h2, h3]
theorem ks7 {t : Tb} {n : Int} {w : List Nat} {p : Nat × Nat} : ∀ x ∈ rowsL t n w p, x < t.ids.length := by
 intro x hx
 unfold rowsL at hx
 split at hx
 ·rw [List.mem_filter] at hx
  have := hx.1
  unfold leftR at this
  rw [List.mem_filter, List.mem_range] at this
  exact this.1
 ·simp at hx
theorem ku6 {t : Tb} {n : Int} {w : List Nat} {p : Nat × Nat} : (rowsL t n w p).length ≤ t.ids.length := by
 unfold rowsL
 split
 ·refine Nat.le_trans (List.length_filter_le _ _) ?_
  unfold leftR
  exact Nat.le_trans (List.length_filter_le _ _) (by simp)
 ·simp
section
variable {h0 : AH} {S : Fp} {s1 s2 s3 s u : Sl} {t : Tb} {n : Int} {w : List Nat} {g : List Int}
theorem kvb (q : TabAt h0 S s1 s2 s3 t) (N : Nats h0 s w) {m : Int} : Runs (go (.fn F.klw [.agg [s1.v, s2.v, s3.v], .agg [.int .i64 n, s.v], .int .i64 m]) h0) fun v h' => v = .int .i64 (faultH t n w m) ∧ Grow h0 h' := by
 rw [k1s]
 refine Runs.new fun h1 b1 g1 => Runs.new fun h2 b2 g2 => ?_
 have B1 := g2.has b1
 have G2 := g1.trans g2
 refine Runs.step (B1.rd 0 rfl (asSl_v _)) (Runs.step (B1.rd 1 rfl (asSl_v _)) (Runs.step (B1.rd 2 rfl (asSl_v _)) ?_))
 refine (kuy (q.grow G2)).call fun v h3 ⟨e, g3⟩ => ?_
 subst e
 unfold faultH
 refine Runs.step (seen rfl) (Runs.cond (fun c => Runs.ret ⟨by rw [if_pos c], G2.trans g3⟩) fun c => ?_)
 rw [if_neg (by rw [c]; simp)]
 refine Runs.step ((g3.has b2).rd 0 rfl (kc _ _)) (Runs.step ((g3.has b2).rd 1 rfl (asSl_v _)) ?_)
 refine (kkf (N.grow (G2.trans g3))).call fun v h4 ⟨e, g4⟩ => ?_
 subst e
 have G4 := (G2.trans g3).trans g4
 have b2' := g4.has (g3.has b2)
 have B1' := g4.has (g3.has B1)
 refine Runs.step (seen rfl) (Runs.cond (fun c => Runs.ret ⟨by rw [if_pos c], G4⟩) fun c => ?_)
 rw [if_neg (by rw [c]; simp)]
 refine Runs.step (b2'.rd 0 rfl (kc _ _)) (Runs.step (B1'.rd 0 rfl (asSl_v _)) ?_)
 rw [q.ids.len]
 refine Runs.cond (fun c => Runs.ret ⟨by rw [if_pos c], G4⟩) fun c => ?_
 rw [if_neg (by rw [c]; simp)]
 refine Runs.step (B1'.rd 0 rfl (asSl_v _)) ?_
 rw [q.ids.len]
 refine Runs.cond (fun c => Runs.ret ⟨by rw [if_pos c], G4⟩) fun c => ?_
 rw [if_neg (by rw [c]; simp)]
 exact Runs.ret ⟨rfl, G4⟩
theorem k1n (q : Sq EI h0 S u g) : Runs (go (.fn F.kc2 [u.v, .func (.func F.kct) [] []]) h0) fun v h' => v = .bool (g.any fun x => decide (x < -1048576) || decide (x > 1048576)) ∧ Grow h0 h' := by
 rw [k18]
 refine Runs.contains (xs := g) ?_
 rw [k26, q.len]
 refine kh8 (n := g.length) (G := fun z h => go (.pt F.ky Td.kby [(0, u.v), (1, .func (.func F.kct) [] []), (7, .int .i64 (g.length : Int)), (8, .int .i64 z)]) h) (fun i h P hi gg hT hF => ?_) (fun h gg => ?_) g.length 0 (by omega) (Grow.refl h0) (fun j hj => by omega)
 ·obtain ⟨r, e1, e2⟩ := (q.grow gg).int hi
  rw [List.getElem?_eq_getElem hi] at hT hF
  simp only [Option.any_some] at hT hF
  show Runs (go _ _) _
  rw [ktu]
  refine Runs.ifT (decide_eq_true (by omega)) (Runs.step e1 (Runs.step e2 ?_))
  have key : go (.fn F.kct [.int .i64 g[i]]) h = some (.bool (decide (g[i] < -1048576) || decide (g[i] > 1048576)), h) := by
   rw [kzg]
   cases decide (g[i] < -1048576) <;> rfl
  refine Runs.step key (Runs.step (seen rfl) ?_)
  rw [kf (by have := q.short; omega)]
  exact Runs.cond (fun c => Runs.ret (hT h gg c)) fun c => hF _ gg c
 ·rw [ktu, condF (decide_eq_false (by omega))]
noncomputable def pNote (s1 s2 s3 : Sl) (n : Int) (s u : Sl) (m : Int) (b1 b2 b3 bo : Nat) (g : AV) (st : LoopState) : ABlk := kdg Fx.ko8 F.kca 0 st none [(0, .agg [s1.v, s2.v, s3.v]), (1, .agg [.int .i64 n, s.v]), (2, u.v), (3, .ptr (some (.new b1 0))), (4, .ptr (some (.new b2 0))), (5, .ptr (some (.new b3 0))), (6, (⟨none, 0, .is 0⟩ : Sl).v), (7, .int .i64 0), (8, .int .i64 0), (9, .ptr (some (.new bo 0))), (15, .agg [s1.v, s2.v, s3.v]), (16, .agg [.int .i64 n, s.v]), (17, u.v), (18, .int .i64 m), (19, .int .i64 0), (20, .int .i64 0), (21, .bool false), (23, u.v), (24, .bool false), (25, .agg [s1.v, s2.v, s3.v]), (26, .agg [.int .i64 n, s.v]), (27, g)]
theorem k2r {note : LoopState → ABlk} {hs : AH} {b3 bo l bx : Nat} {x4 y : Sl} {j jo : Option Nat} {e3 : TypeId} {R : List Nat} {xs : List (Int × Int)} {to : Sl} (hbl : bo ≠ l) (hbs : bo < hs.blks.size) (hls : l < hs.blks.size) (h3 : b3 < hs.blks.size) (hx : hs.blks.size ≤ bx) (ljo : LeO hs.blks.size jo) (hjx : ∀ k, jo = some k → k ≠ bx) (hlt : ∀ x ∈ R, x < g.length) (hR : R.length ≤ 300) (hxs : xs.length < 1000)
  (hend : ∀ h', h'.blks[l]? = some (note .busy) → kb4 l none h' = some (.bool true, h'.setBlk l (note .ready))) : ∀ (k i : Nat), i + k = R.length → ∀ (h : AH) (a : Int), hs.blks.size ≤ h.blks.size → (∀ k, j = some k → k ≠ bx) → GF EI T.int h Fp.no y j (zs R) → h.has b3 [u.v] e3 → (∃ S : Fp, ¬ S bx ∧ Sq EI h S u g) → h.has bx [.int .i64 a, .int .i64 (R.length : Int)] T.kbs → h.blks[l]? = some (note .busy) → h.has bo [to.v] T.kgr → GF EP T.kbs h Fp.no to jo xs →
  Runs (go (.rpt l F.kca Td.km6 [(5, .ptr (some (.new b3 0))), (6, x4.v), (7, .int .i64 0), (9, .ptr (some (.new bo 0))), (12, .ptr (some (.new bx 0))), (33, y.v), (34, .int .i64 (R.length : Int)), (35, .int .i64 (i : Int))]) h) fun v h' => v = .bool true ∧ Md (fun m => m = bo ∨ m = l ∨ jo = some m ∨ m = bx) h h' ∧ h'.blks[l]? = some (note .ready) ∧ ∃ (t : Sl) (j : Option Nat), h'.has bo [t.v] T.kgr ∧ LeO hs.blks.size j ∧ GF EP T.kbs h' Fp.no t j (xs ++ [(sumG g (R.drop i) a, (R.length : Int))]) := by
 intro k
 induction k with
 | zero =>
  intro i hi h a hsh hj V B3 Q Bx hn Bo Vo
  rw [kq6]
  refine Runs.ifF (decide_eq_false (by omega)) (Runs.step (Bo.rd0 rfl (asSl_v _)) (Runs.step (Bx.rd 0 rfl (kc _ _)) (Runs.step (Bx.rd 1 rfl (kc _ _)) ?_)))
  refine Runs.new fun h1 b1 g1 => ?_
  have n1 := (g1.blk l (Array.getElem?_eq_some_iff.1 hn).1).trans hn
  have := k9a (note := note) (hs := hs) (E := EP) (x := (a, (R.length : Int))) (g1.has Bo) n1 hbl hbs hls (Nat.le_trans hsh g1.size) ljo (Vo.grow g1) (EP.of _ _) (k2q (by omega)) b1 (by rw [k4m]; rfl) hend
  refine this.imp fun v h' ⟨e, m5, n5, o5⟩ => ⟨e, (g1.thenM m5).mono fun m _ x => by rcases x with x | x | x <;> simp [x], n5, ?_⟩
  rw [List.drop_eq_nil_of_le (by omega)]
  exact o5
 | succ k ih =>
  intro i hi h a hsh hj V B3 ⟨S, hS, Q⟩ Bx hn Bo Vo
  have hi' : i < R.length := by omega
  have hz : i < (zs R).length := by rw [zs_len]; exact hi'
  obtain ⟨r, e1, e2⟩ := V.sq.int hz
  have hx' : (zs R)[i] = ((R[i] : Nat) : Int) := by simp [zs]
  have hg := hlt _ (List.getElem_mem hi')
  obtain ⟨r2, e4, e5⟩ := Q.int hg
  rw [kq6]
  refine Runs.ifT (decide_eq_true (by omega)) (Runs.step e1 (Runs.step e2 (Runs.step (Bx.rd 0 rfl (kc _ _)) (Runs.step (B3.rd0 rfl (asSl_v _)) ?_))))
  rw [hx']
  refine Runs.step e4 (Runs.step e5 ?_)
  refine Runs.putAt (o := 0) Bx (by simp) (cs' := [.int .i64 (IntKind.wrap .i64 (a + g[R[i]])), .int .i64 (R.length : Int)]) rfl fun h1 Bx1 u1 => ?_
  rw [kf (by omega)]
  have := ih (i + 1) (by omega) h1 (IntKind.wrap .i64 (a + g[R[i]])) (Nat.le_trans hsh u1.size) hj (V.upd u1 Fp.not_no hj) (B3.updr (by omega) u1) ⟨S, hS, Q.upd hS u1⟩ Bx1 ((u1.blk l (by omega) (Array.getElem?_eq_some_iff.1 hn).1).trans hn) (Bo.updr (by omega) u1) (Vo.upd u1 Fp.not_no hjx)
  refine this.imp fun v h' ⟨e, m, n', o⟩ => ⟨e, (u1.md (.inr (.inr (.inr rfl)))).trans m, n', ?_⟩
  have hd : R.drop i = R[i] :: R.drop (i + 1) := List.drop_eq_getElem_cons hi'
  rw [hd]
  unfold sumG at o ⊢
  rw [List.foldl_cons]
  have : g.getD R[i] 0 = g[R[i]] := by simp [List.getD, hg]
  rw [this]
  exact o
end
end Go.Ab

/- squeezed -/
set_option linter.unusedVariables false
set_option linter.unusedSimpArgs false
set_option maxRecDepth 10000
namespace Go.Ab
open Go.Proofs
def oddG (g : List Int) : Bool := g.any fun x => decide (x < -1048576) || decide (x > 1048576)
def plainH (t : Tb) (n : Int) (w : List Nat) (g : List Int) : List (Int × Int) × Int := if faultH t n w (g.length : Int) = 0 then if oddG g then ([], 1) else (sumsL g (rowsL t n w) (cutsL t), 0) else ([], faultH t n w (g.length : Int))
section
variable {h0 : AH} {S : Fp} {s1 s2 s3 s u : Sl} {t : Tb} {n : Int} {w : List Nat} {g : List Int}
theorem k1i {hs h : AH} {b1 b2 b3 bo l : Nat} {gv : AV} {m : Int} {d : List (Nat × Nat)} {f c : Nat} {y : Sl} {j : Option Nat} (hbl : bo ≠ l) (hbs : bo < hs.blks.size) (hls : l < hs.blks.size) (h3 : b3 < hs.blks.size) (h3o : b3 ≠ bo) (h3l : b3 ≠ l) (hd : d.length < 1000) (hb : g.length = t.ids.length) (hids : t.ids.length ≤ 256) (B3 : hs.has b3 [u.v] T.kb6) {N0 : Nat} (hN0 : N0 ≤ bo) (hNl : N0 ≤ l) (hNs : N0 ≤ hs.blks.size) (Q : Sq EI hs (Fp.below N0) u g)
  (I : Lp EP T.kbs T.kgr (pNote s1 s2 s3 n s u m b1 b2 b3 bo gv) hs bo l (sumsL g (rowsL t n w) d) h) (V : GF EI T.int h Fp.no y j (zs (rowsL t n w (f, c)))) : Runs (go (.round l [.agg [.int .i64 (f : Int), .int .i64 (c : Int)], y.v]) h) fun v h' => v = .bool true ∧ Lp EP T.kbs T.kgr (pNote s1 s2 s3 n s u m b1 b2 b3 bo gv) hs bo l (sumsL g (rowsL t n w) (d ++ [(f, c)])) h' := by
 obtain ⟨M, hn, to, jo, Bo, ljo, Vo⟩ := I
 have hll : l < h.blks.size := (Array.getElem?_eq_some_iff.1 hn).1
 have hsz := M.size
 have B3h : h.has b3 [u.v] T.kb6 := M.has B3 (by omega)
 have Qh : Sq EI h (Fp.below N0) u g := Q.md M fun k a b => by
  have a : k < N0 := a
  rcases b with rfl | rfl <;> omega
 rw [kxl l none _ _ _ _ _ _ _ _ _ _ _ _ _ _ _ _ _ _ _ _ _ _ _ _ _ _ _ _ _ _ _ _ _ _ hn, kp4 (h := h) hn, Option.bind_some]
 generalize hq : h.setBlk l _ = h1
 have u1 : Upd h h1 l := by rw [← hq]; exact AH.setBlk_Upd _
 have n1 : h1.blks[l]? = some (pNote s1 s2 s3 n s u m b1 b2 b3 bo gv .busy) := by rw [← hq]; exact AH.setBlk_get hll
 have V1lt : LtO h.blks.size j := V.lt
 refine Runs.new fun h2 b2' g2 => Runs.puts b2' rfl fun h3' b3' u3 => ?_
 have hu1 := u1.size
 have G13 : Grow h1 h3' := g2.updr (Nat.le_refl _) u3
 have hjl : ∀ k, j = some k → k ≠ h1.blks.size := fun k e => by
  subst e
  have : k < h.blks.size := V1lt
  omega
 have Vol := Vo.lt
 have hjo : ∀ k, jo = some k → k ≠ h1.blks.size := fun k e => by
  subst e
  have : k < h.blks.size := Vol
  omega
 by_cases hyl : j = some l
 ·subst hyl
  exfalso
  obtain ⟨_, _, _, _, rows, e, b, _⟩ := V
  rw [AH.has, hn] at b
  unfold pNote kdg at b
  cases b
 have V3 : GF EI T.int h3' Fp.no y j (zs (rowsL t n w (f, c))) := (V.upd u1 Fp.not_no fun k e e2 => hyl (by rw [e, e2])).grow G13
 have Vo3 : GF EP T.kbs h3' Fp.no to jo (sumsL g (rowsL t n w) d) := (Vo.upd u1 Fp.not_no (kc3 hls ljo)).grow G13
 rw [V.len, zs_len]
 rw [V.len, zs_len] at b3'
 have := k2r (g := g) (note := pNote s1 s2 s3 n s u m b1 b2 b3 bo gv) (hs := hs) (x4 := ⟨none, 0, .is 0⟩) (e3 := T.kb6) (R := rowsL t n w (f, c)) (xs := sumsL g (rowsL t n w) d) hbl hbs hls h3 (show hs.blks.size ≤ h1.blks.size by omega) ljo hjo (fun x hx => by rw [hb]; exact ks7 x hx) (by have := ku6 (t := t) (n := n) (w := w) (p := (f, c)); omega) (by unfold sumsL; rw [List.length_map]; exact hd) (fun h' hn' => by rw [knu hn']; rfl) (rowsL t n w (f, c)).length 0 (by omega) h3' 0 (by have := G13.size; omega) hjl V3 (G13.has (B3h.updr h3l u1)) ⟨Fp.below N0, by intro k; have k : h1.blks.size < N0 := k; omega, (Qh.upd (by intro k; have k : l < N0 := k; omega) u1).grow G13⟩ b3' ((G13.blk l (Array.getElem?_eq_some_iff.1 n1).1).trans n1) (G13.has (Bo.updr hbl u1)) Vo3
 refine this.imp fun v h' ⟨e, m5, n5, o5⟩ => ⟨e, ?_⟩
 have hsum : sumsL g (rowsL t n w) (d ++ [(f, c)]) = sumsL g (rowsL t n w) d ++ [(sumG g ((rowsL t n w (f, c)).drop 0) 0, ((rowsL t n w (f, c)).length : Int))] := by
  unfold sumsL
  rw [List.map_append, List.drop_zero]
  rfl
 rw [hsum]
 refine ⟨?_, n5, o5⟩
 have m4 : Md (fun m => m = bo ∨ m = l) hs h3' := (M.trans (u1.md (.inr rfl))).thenG G13
 refine m4.next m5 fun k hk x => ?_
 rcases x with x | x | x | x
 ·exact .inl x
 ·exact .inr x
 ·exact absurd rfl (kc3 hk ljo _ x)
 ·omega
theorem k0f (T0 : Tab h0) (q : TabAt h0 S s1 s2 s3 t) (N : Nats h0 s w) (Q : Sq EI h0 S u g) : Runs (go (.fn F.kca [.agg [s1.v, s2.v, s3.v], .agg [.int .i64 n, s.v], u.v]) h0) fun v h' => Grow h0 h' ∧ ∃ (y : Sl) (j : Option Nat), v = .tup [y.v, .int .i64 (plainH t n w g).2] ∧ LeO h0.blks.size j ∧ GF EP T.kbs h' Fp.no y j (plainH t n w g).1 := by
 rw [k1x]
 refine Runs.new fun h1 b1 g1 => Runs.new fun h2 b2 g2 => Runs.new fun h3 b3 g3 => ?_
 have B1 := g3.has (g2.has b1)
 have B2 := g3.has b2
 have z1 := b1.lt
 have z2 := b2.lt
 have z3 := b3.lt
 have G3 : Grow h0 h3 := (g1.trans g2).trans g3
 refine Runs.step (B1.rd 0 rfl (asSl_v _)) (Runs.step (B1.rd 1 rfl (asSl_v _)) (Runs.step (B1.rd 2 rfl (asSl_v _)) (Runs.step (B2.rd 0 rfl (kc _ _)) (Runs.step (B2.rd 1 rfl (asSl_v _)) (Runs.step (b3.rd0 rfl (asSl_v _)) ?_)))))
 rw [Q.len]
 refine (kvb (q.grow G3) (N.grow G3)).call fun v h4 ⟨e, g4⟩ => ?_
 subst e
 refine Runs.step (seen rfl) ?_
 have G4 := G3.trans g4
 refine Runs.cond (fun c => ?_) fun c => ?_
 ·rw [Bool.not_eq_true', decide_eq_false_iff_not] at c
  refine Runs.ret ⟨G4, (⟨none, 0, .is 0⟩ : Sl), none, ?_, trivial, ?_⟩
  ·unfold plainH
   rw [if_neg c]
  ·unfold plainH
   rw [if_neg c]
   exact GF.none _ _ _ _
 rw [Bool.not_eq_false', decide_eq_true_eq] at c
 obtain ⟨hR, hR2, hn, hm⟩ := kor c
 rw [c]
 refine Runs.step ((g4.has b3).rd0 rfl (asSl_v _)) ?_
 refine (k1n (Q.grow G4)).call fun v h5 ⟨e, g5⟩ => ?_
 subst e
 have G5 := G4.trans g5
 refine Runs.step (seen rfl) (Runs.cond (fun c2 => ?_) fun c2 => ?_)
 ·refine Runs.ret ⟨G5, (⟨none, 0, .is 0⟩ : Sl), none, ?_, trivial, ?_⟩
  ·unfold plainH
   rw [if_pos c, if_pos (show oddG g = true from c2)]
  ·unfold plainH
   rw [if_pos c, if_pos (show oddG g = true from c2)]
   exact GF.none _ _ _ _
 have hpl : plainH t n w g = (sumsL g (rowsL t n w) (cutsL t), 0) := by
  unfold plainH
  rw [if_pos c, if_neg (by rw [show oddG g = false from c2]; simp)]
 rw [hpl]
 have g35 := g4.trans g5
 dsimp only
 refine Runs.new fun h6 b6 g6 => ?_
 have g36 := g35.trans g6
 have B1' := g36.has B1
 have B2' := g36.has B2
 have z4 := g35.size
 have z6 := b6.lt
 refine Runs.step (B1'.rd 0 rfl (asSl_v _)) (Runs.step (B1'.rd 1 rfl (asSl_v _)) (Runs.step (B1'.rd 2 rfl (asSl_v _)) (Runs.step (B2'.rd 0 rfl (kc _ _)) (Runs.step (B2'.rd 1 rfl (asSl_v _)) ?_))))
 have k0 : Runs (go (.fn F.kjj [.agg [s1.v, s2.v, s3.v], .agg [.int .i64 n, s.v]]) h6) fun v h' => ∃ c1 c2 : Nat, v = .func (.func F.kbh) [] [.ptr (some (.new c1 0)), .ptr (some (.new c2 0))] ∧ h6.blks.size ≤ c1 ∧ h6.blks.size ≤ c2 ∧ h'.has c1 [s1.v, s2.v, s3.v] T.ku ∧ h'.has c2 [.int .i64 n, s.v] T.kn ∧ Grow h6 h' := by
  rw [krx]
  exact Runs.new fun h4 b4 g4 => Runs.new fun h5 b5 g5 => Runs.ret ⟨_, _, rfl, Nat.le_refl _, g4.size, g5.has b4, b5, g4.trans g5⟩
 refine k0.call fun v h7 ⟨c1, c2', e, l1, l2, d1, d2, g7⟩ => ?_
 subst e
 dsimp only
 rw [k5w, kn4]
 refine Runs.newM fun h8 hb g8 => ?_
 rw [kqp]
 generalize hgv : (AV.func (.func F.kbh) [] [AV.ptr (some (Ref.new c1 0)), AV.ptr (some (Ref.new c2' 0))]) = gv at hb
 have g38 := (g36.trans g7).trans g8
 have G8 : Grow h0 h8 := G3.trans g38
 have z7 := d1.lt
 have z8 := d2.lt
 have z9 : h7.blks.size < h8.blks.size := (Array.getElem?_eq_some_iff.1 hb).1
 have E8 : EachOk (Fp.below h0.blks.size) s1 s2 s3 s t n w c1 c2' h8 := ⟨T0.grow G8, q.bound.grow G8, N.grow G8, g8.has d1, g8.has d2⟩
 have I0 : Lp EP T.kbs T.kgr (pNote s1 s2 s3 n s u (g.length : Int) h0.blks.size h1.blks.size h2.blks.size h5.blks.size gv) h8 h5.blks.size h7.blks.size (sumsL g (rowsL t n w) []) h8 := ⟨Md.refl _ _, hb, _, none, g8.has (g7.has b6), trivial, GF.none _ _ _ _⟩
 have k1 := ku7 (l := h7.blks.size) (Inv := fun d h => Lp EP T.kbs T.kgr (pNote s1 s2 s3 n s u (g.length : Int) h0.blks.size h1.blks.size h2.blks.size h5.blks.size gv) h8 h5.blks.size h7.blks.size (sumsL g (rowsL t n w) d) h) (fun d h I => E8.md I.md (fun j a b => by have a : j < h0.blks.size := a; rcases b with rfl | rfl <;> omega) (fun j hj => Classical.byContradiction fun k => hj (Av.of_base N (Nat.le_of_not_lt k))) (by omega) (by omega)) (fun d h h' I g => I.grow g) hR (fun d f c h y j hf hc hd I V => k1i (by omega) (by omega) (by omega) (by omega) (by omega) (by omega) hd (by omega) (kd4 hR).1 (g38.has b3) (N0 := h0.blks.size) (by omega) (by omega) (by omega) ((Q.bound.mono fun _ x => x.2).grow G8) I V) I0
 show Runs ((go (.fn F.kbh [.func (.yield h7.blks.size) [] [], .ptr (some (.new c1 0)), .ptr (some (.new c2' 0))]) h8).bind _) _
 refine k1.call fun v h9 ⟨e, I⟩ => ?_
 obtain ⟨M, hn9, t', j, B, lj, V⟩ := I
 dsimp only
 rw [knc hn9, Option.bind_some, k7z]
 have u7 : Upd h9 (h9.setBlk h7.blks.size .dead) h7.blks.size := AH.setBlk_Upd _
 have zz := M.size
 have G9 : Grow h0 h9 := (G8.thenM M).grow fun j hj => by intro k; rcases k with rfl | rfl <;> omega
 refine Runs.step ((B.updr (by omega) u7).rd0 rfl (asSl_v _)) (Runs.ret ⟨G9.updr (by omega) u7, t', j, rfl, LeO.trans (by omega) lj, ?_⟩)
 exact V.upd u7 Fp.not_no (kc3 (by omega) lj)
end
end Go.Ab

/- squeezed -/
set_option linter.unusedVariables false
set_option linter.unusedSimpArgs false
set_option maxRecDepth 10000
namespace Go.Ab
open Go.Proofs
section
variable {h0 : AH} {S : Fp} {s1 s2 s3 s u : Sl} {t : Tb} {n : Int} {w : List Nat} {g : List Int}
theorem k07 (q : TabAt h0 S s1 s2 s3 t) (hR : tabR t = true) {b : Nat} (B : h0.has b [s1.v, s2.v, s3.v] T.ku) {f : Nat} (hf : f < t.cols.length) {Q : AV → AH → Prop} (hP : ∀ (h : AH) (y : Sl) (j : Option Nat), Grow h0 h → LeO h0.blks.size j → GF EP T.kcw h Fp.no y j (zc (cutsTo t (f + 1))) → Runs (go (.pt F.kcx Td.kjo [(1, .ptr (some (.new b 0))), (3, .bool true), (4, y.v), (5, .int .i64 ((f + 1 : Nat) : Int))]) h) Q) :
  ∀ (k c : Nat), c + k = nb t f → ∀ (h : AH) (y : Sl) (j : Option Nat), Grow h0 h → LeO h0.blks.size j → GF EP T.kcw h Fp.no y j (zc (cutsTo t f ++ (List.range c).map fun c => (f, c))) →
  Runs (go (.pt F.kcx Td.kma [(1, .ptr (some (.new b 0))), (3, .bool true), (4, y.v), (5, .int .i64 (f : Int)), (6, .int .i64 (c : Int))]) h) Q := by
 obtain ⟨hids, hcols, hbins, hall⟩ := kd4 hR
 obtain ⟨hb, hb2, hb32, hcl⟩ := kfd (hall f hf) hf hbins
 have hgd : t.bins.getD f 0 = t.bins[f] := by simp [List.getD, hb]
 have hnb : (nb t f : Int) = t.bins[f] - 1 := by
  unfold nb
  rw [hgd]
  omega
 have hlen : (cutsTo t f).length ≤ 31 * f := kj9 t f fun i hi => by
  obtain ⟨hb', h2', h32', -⟩ := kfd (hall i (by omega)) (by omega) hbins
  have : t.bins.getD i 0 = t.bins[i] := by simp [List.getD, hb']
  unfold nb
  rw [this]
  omega
 intro k
 induction k with
 | zero =>
  intro c hc h y j G lj V
  obtain rfl : c = nb t f := by omega
  rw [← kof] at V
  obtain ⟨r, e1, e2⟩ := (q.bins.grow G).int hb
  rw [kv1]
  refine Runs.step ((G.has B).rd 1 rfl (asSl_v _)) (Runs.step e1 (Runs.step e2 ?_))
  rw [wrap64 (n := t.bins[f] - 1) (by omega) (by omega), ← hnb]
  refine Runs.ifF (decide_eq_false (by omega)) ?_
  rw [kf (by omega)]
  exact hP h y j G lj V
 | succ k ih =>
  intro c hc h y j G lj V
  obtain ⟨r, e1, e2⟩ := (q.bins.grow G).int hb
  rw [kv1]
  refine Runs.step ((G.has B).rd 1 rfl (asSl_v _)) (Runs.step e1 (Runs.step e2 ?_))
  rw [wrap64 (n := t.bins[f] - 1) (by omega) (by omega), ← hnb]
  refine Runs.ifT (decide_eq_true (by omega)) ?_
  refine Runs.new fun h2 b2 g2 => ?_
  refine Runs.step (kfw b2 (by rw [k6z]; rfl)) ?_
  have hl : (zc (cutsTo t f ++ (List.range c).map fun c => (f, c))).length ≤ 1000 := by
   rw [zc_len, List.length_append, List.length_map, List.length_range]
   omega
  obtain ⟨y', h3, e3, V3, u3⟩ := (V.grow g2).push (T := Fp.no) (EP.of (f : Int) (c : Int)) NotO.no (kyo (by omega))
  refine Runs.step e3 (Runs.step (asSl_v _) ?_)
  rw [kf (by omega)]
  refine ih (c + 1) (by omega) h3 y' (some h2.blks.size) ((G.trans g2).updo lj u3) (show _ ≤ _ from (G.trans g2).size) ?_
  rw [List.range_succ, List.map_append, ← List.append_assoc, zc_app]
  exact V3.mono (fun j x => x.1.elim id id) NotO.no
theorem k3q (q : TabAt h0 S s1 s2 s3 t) (hR : tabR t = true) {b : Nat} (B : h0.has b [s1.v, s2.v, s3.v] T.ku) : ∀ (k f : Nat), f + k = t.cols.length → ∀ (h : AH) (y : Sl) (j : Option Nat), Grow h0 h → LeO h0.blks.size j → GF EP T.kcw h Fp.no y j (zc (cutsTo t f)) →
  Runs (go (.pt F.kcx Td.kjo [(1, .ptr (some (.new b 0))), (3, .bool true), (4, y.v), (5, .int .i64 (f : Int))]) h) fun v h' => Grow h0 h' ∧ ∃ (y : Sl) (j : Option Nat), v = y.v ∧ LeO h0.blks.size j ∧ GF EP T.kcw h' Fp.no y j (zc (cutsTo t t.cols.length)) := by
 obtain ⟨hids, hcols, hbins, hall⟩ := kd4 hR
 intro k
 induction k with
 | zero =>
  intro f hf h y j G lj V
  obtain rfl : f = t.cols.length := by omega
  rw [kne]
  refine Runs.ifT rfl (Runs.step ((G.has B).rd 2 rfl (asSl_v _)) ?_)
  rw [q.cols.len]
  exact Runs.ifF (decide_eq_false (by omega)) (Runs.ret ⟨G, y, j, rfl, lj, V⟩)
 | succ k ih =>
  intro f hf h y j G lj V
  rw [kne]
  refine Runs.ifT rfl (Runs.step ((G.has B).rd 2 rfl (asSl_v _)) ?_)
  rw [q.cols.len]
  refine Runs.ifT (decide_eq_true (by omega)) ?_
  exact k07 q hR B (by omega) (fun h y j G lj V => ih (f + 1) (by omega) h y j G lj V) (nb t f) 0 (by omega) h y j G lj (by simpa using V)
theorem k89 (q : TabAt h0 S s1 s2 s3 t) : Runs (go (.fn F.kcx [.agg [s1.v, s2.v, s3.v]]) h0) fun v h' => Grow h0 h' ∧ ∃ (y : Sl) (j : Option Nat), v = y.v ∧ LeO h0.blks.size j ∧ GF EP T.kcw h' Fp.no y j (zc (cutsL t)) := by
 rw [k6h]
 refine Runs.new fun h1 b1 g1 => Runs.step (b1.rd 0 rfl (asSl_v _)) (Runs.step (b1.rd 1 rfl (asSl_v _)) (Runs.step (b1.rd 2 rfl (asSl_v _)) ?_))
 refine (kqn (q.grow g1)).call fun v h2 ⟨e, g2⟩ => ?_
 subst e
 refine Runs.step (seen rfl) ?_
 have G := g1.trans g2
 unfold cutsL
 cases hR : tabR t with
 | false =>
  rw [kne]
  exact Runs.ifF rfl (Runs.ret ⟨G, _, none, rfl, trivial, GF.none _ _ _ _⟩)
 | true =>
  refine (k3q (q.grow G) hR (g2.has b1) t.cols.length 0 (by omega) h2 _ none (Grow.refl _) trivial (GF.none _ _ _ _)).imp fun v h' ⟨g, y, j, e, lj, V⟩ => ⟨G.trans g, y, j, e, LeO.trans G.size lj, V⟩
theorem k20 (q : TabAt h0 S s1 s2 s3 t) (N : Nats h0 s w) {m : Int} : Runs (go (.fn F.koa [.agg [s1.v, s2.v, s3.v], .agg [.int .i64 n, s.v], .int .i64 m]) h0) fun v h' => v = .int .i64 (faultH t n w m) ∧ Grow h0 h' := by
 rw [k9u]
 refine Runs.new fun h1 b1 g1 => Runs.new fun h2 b2 g2 => ?_
 have B1 := g2.has b1
 have G2 := g1.trans g2
 refine Runs.step (B1.rd 0 rfl (asSl_v _)) (Runs.step (B1.rd 1 rfl (asSl_v _)) (Runs.step (B1.rd 2 rfl (asSl_v _)) ?_))
 refine (kqn (q.grow G2)).call fun v h3 ⟨e, g3⟩ => ?_
 subst e
 unfold faultH
 refine Runs.step (seen rfl) (Runs.cond (fun c => Runs.ret ⟨by rw [if_pos c], G2.trans g3⟩) fun c => ?_)
 rw [if_neg (by rw [c]; simp)]
 refine Runs.step ((g3.has b2).rd 0 rfl (kc _ _)) (Runs.step ((g3.has b2).rd 1 rfl (asSl_v _)) ?_)
 refine (krn (N.grow (G2.trans g3))).call fun v h4 ⟨e, g4⟩ => ?_
 subst e
 have G4 := (G2.trans g3).trans g4
 have b2' := g4.has (g3.has b2)
 have B1' := g4.has (g3.has B1)
 refine Runs.step (seen rfl) (Runs.cond (fun c => Runs.ret ⟨by rw [if_pos c], G4⟩) fun c => ?_)
 rw [if_neg (by rw [c]; simp)]
 refine Runs.step (b2'.rd 0 rfl (kc _ _)) (Runs.step (B1'.rd 0 rfl (asSl_v _)) ?_)
 rw [q.ids.len]
 refine Runs.cond (fun c => Runs.ret ⟨by rw [if_pos c], G4⟩) fun c => ?_
 rw [if_neg (by rw [c]; simp)]
 refine Runs.step (B1'.rd 0 rfl (asSl_v _)) ?_
 rw [q.ids.len]
 refine Runs.cond (fun c => Runs.ret ⟨by rw [if_pos c], G4⟩) fun c => ?_
 rw [if_neg (by rw [c]; simp)]
 exact Runs.ret ⟨rfl, G4⟩
end
end Go.Ab

/- squeezed -/
set_option linter.unusedVariables false
set_option linter.unusedSimpArgs false
set_option maxRecDepth 10000
namespace Go.Ab
open Go.Proofs
theorem kbaj {t : Tb} {w : List Nat} (hR : btR (t.ids.length : Int) w = true) (p : Nat × Nat) : rowsL t (t.ids.length : Int) w p = (btL (t.ids.length : Int) w).filter (leftP t p.1 (p.2 : Int)) := by
 unfold rowsL btL
 rw [hR, decide_eq_true rfl, Bool.and_self, if_pos rfl, if_pos rfl, Int.toNat_natCast]
 unfold leftR
 rw [List.filter_filter, List.filter_filter]
 apply List.filter_congr
 intro x _
 exact Bool.and_comm _ _
section
variable {h0 : AH} {S : Fp} {s1 s2 s3 s u : Sl} {t : Tb} {n : Int} {w : List Nat} {g : List Int}
end
end Go.Ab

/- squeezed -/
set_option linter.unusedVariables false
set_option linter.unusedSimpArgs false
set_option maxRecDepth 10000
namespace Go.Ab
open Go.Proofs
section
variable {h0 : AH} {S : Fp} {s1 s2 s3 s u : Sl} {t : Tb} {n : Int} {w : List Nat} {g : List Int}
theorem kkx {h : AH} {i : Nat} {xs : List Int} {e : TypeId} (b : h.has i (xs.map (AV.int .i64)) e) (hs : xs.length ≤ 9223372036854775807) : Sq EI h (Fp.or (fun j => j = i) Fp.no) ⟨some (.new i 0), xs.length, .is xs.length⟩ xs := by
 refine Sq.lit (rows := xs.map fun x => [AV.int .i64 x]) (e := e) ?_ ?_ rfl hs
 ·have : (xs.map fun x => [AV.int .i64 x]).flatten = xs.map (AV.int .i64) := by
   clear b hs
   induction xs with
   | nil => rfl
   | cons x xs ih => rw [List.map_cons, List.flatten_cons, ih]; rfl
  rw [this]
  exact b
 ·clear b hs
  induction xs with
  | nil => exact .nil
  | cons x xs ih => exact .cons rfl ih
theorem k9p : plainH ⟨[0, 1, 2], [2], [[0, 1, 1]]⟩ 3 [3] [5, 6, 7] = ([(5, 1)], 0) := by decide +kernel
theorem kyu (T0 : Tab h0) : Runs (go (.fn F.kng []) h0) fun v h' => v = .bool true ∧ Grow h0 h' := by
 rw [k6c]
 refine Runs.new fun h1 b1 g1 => Runs.new fun h2 b2 g2 => Runs.new fun h3 b3 g3 => Runs.new fun h4 b4 g4 => Runs.new fun h5 b5 g5 => Runs.puts b5 rfl fun h6 b6 u6 => ?_
 have G6 : Grow h4 h6 := g5.updr (Nat.le_refl _) u6
 refine Runs.step (b6.rd 0 rfl (asSl_v _)) (Runs.step (b6.rd 1 rfl (asSl_v _)) (Runs.step (b6.rd 2 rfl (asSl_v _)) ?_))
 refine Runs.new fun h7 b7 g7 => Runs.new fun h8 b8 g8 => ?_
 have G48 := (G6.trans g7).trans g8
 have G08 : Grow h0 h8 := (((g1.trans g2).trans g3).trans g4).trans G48
 have q1 : Sq EI h8 Fp.all ⟨some (.new h0.blks.size 0), 3, .is 3⟩ [0, 1, 2] := (kkx (xs := [0, 1, 2]) (((g2.trans g3).trans g4 |>.trans G48).has b1) (by decide)).mono fun _ _ => trivial
 have q2 : Sq EI h8 Fp.all ⟨some (.new h1.blks.size 0), 1, .is 1⟩ [2] := (kkx (xs := [2]) (((g3.trans g4).trans G48).has b2) (by decide)).mono fun _ _ => trivial
 have q3 : Sq EI h8 Fp.all ⟨some (.new h2.blks.size 0), 3, .is 3⟩ [0, 1, 1] := (kkx (xs := [0, 1, 1]) ((g4.trans G48).has b3) (by decide)).mono fun _ _ => trivial
 have q4 : Sq (Ef.seq EI) h8 Fp.all ⟨some (.new h3.blks.size 0), 1, .is 1⟩ [[0, 1, 1]] := (Sq.lit (E := Ef.seq EI) (rows := [[Sl.v ⟨some (.new h2.blks.size 0), 3, .is 3⟩]]) (G48.has b4) (.cons ⟨_, rfl, q3⟩ .nil) rfl).mono fun _ _ => trivial
 have N : Nats h8 ⟨some (.new h6.blks.size 0), 1, .is 1⟩ [3] := Nats.of_has (xs := [3]) (g8.has b7) (by simp) (by simp)
 have Q : Sq EI h8 Fp.all ⟨some (.new h7.blks.size 0), 3, .is 3⟩ [5, 6, 7] := (kkx (xs := [5, 6, 7]) b8 (by decide)).mono fun _ _ => trivial
 refine (k0f (T0.grow G08) (t := ⟨[0, 1, 2], [2], [[0, 1, 1]]⟩) (n := 3) ⟨q1, q2, q4⟩ N Q).call fun v h9 ⟨g9, y, j, e, lj, V⟩ => ?_
 subst e
 rw [k9p] at V ⊢
 refine Runs.step rfl (Runs.step (seen (asSl_v _)) (Runs.step (seen (kc _ _)) (Runs.ifT rfl ?_)))
 have hl : y.len = 1 := V.len
 rw [hl]
 refine Runs.ifT rfl ?_
 obtain ⟨r, e1, e2, e3⟩ := V.sq.two (i := 0) (by decide)
 rw [hl] at e1
 refine Runs.step e1 (Runs.step e2 (Runs.step e3 (Runs.ret ⟨rfl, G08.trans g9⟩)))
theorem few_15 (q : TabAt h0 S s1 s2 s3 t) {b1 b2 : Nat} (B1 : h0.has b1 [s1.v, s2.v, s3.v] T.ku) (B2 : h0.has b2 [.int .i64 n, s.v] T.kn) : ∀ (k i : Nat) (a : Int), i + k = t.bins.length → Runs (go (.pt F.kb5 Td.kmo [(3, .ptr (some (.new b1 0))), (4, .ptr (some (.new b2 0))), (10, .int .i64 a), (11, .int .i64 (i : Int))]) h0) fun v h' => (∃ r, v = .bool r) ∧ Grow h0 h' := by
 have fin : ∀ a : Int, Runs (((h0.cell ((Ref.new b1 0).add 0)).bind AV.asSl).bind fun l9 => cond (decide ((l9.len : Int) ≤ 300)) (((h0.cell ((Ref.new b2 0).add 1)).bind AV.asSl).bind fun l10 => cond (decide ((l10.len : Int) ≤ 2000)) (((h0.cell ((Ref.new b1 0).add 0)).bind AV.asSl).bind fun l11 => some (.bool (decide ((IntKind.wrap .i64 (a * (l11.len : Int))) ≤ 3000)), h0)) (some (.bool false, h0))) (some (.bool false, h0))) fun v h' => (∃ r, v = .bool r) ∧ Grow h0 h' := by
  intro a
  refine Runs.step (B1.rd 0 rfl (asSl_v _)) (Runs.cond (fun _ => ?_) fun _ => Runs.ret ⟨⟨_, rfl⟩, Grow.refl _⟩)
  refine Runs.step (B2.rd 1 rfl (asSl_v _)) (Runs.cond (fun _ => ?_) fun _ => Runs.ret ⟨⟨_, rfl⟩, Grow.refl _⟩)
  exact Runs.step (B1.rd 0 rfl (asSl_v _)) (Runs.ret ⟨⟨_, rfl⟩, Grow.refl _⟩)
 intro k
 induction k with
 | zero =>
  intro i a hi
  rw [kv7]
  refine Runs.step (B1.rd 1 rfl (asSl_v _)) ?_
  rw [q.bins.len]
  exact Runs.ifF (decide_eq_false (by omega)) (fin a)
 | succ k ih =>
  intro i a hi
  have hi' : i < t.bins.length := by omega
  obtain ⟨r, e1, e2⟩ := q.bins.int hi'
  have := q.bins.short
  rw [kv7]
  refine Runs.step (B1.rd 1 rfl (asSl_v _)) ?_
  rw [q.bins.len]
  refine Runs.ifT (decide_eq_true (by omega)) (Runs.cond (fun _ => ?_) fun _ => fin a)
  refine Runs.step (B1.rd 1 rfl (asSl_v _)) (Runs.step e1 (Runs.step e2 ?_))
  rw [kf (by omega)]
  exact ih (i + 1) _ (by omega)
theorem few_8 (q : TabAt h0 S s1 s2 s3 t) {b1 b2 : Nat} (B1 : h0.has b1 [s1.v, s2.v, s3.v] T.ku) (B2 : h0.has b2 [.int .i64 n, s.v] T.kn) : ∀ (k i : Nat) (a : Int), i + k = t.cols.length → Runs (go (.pt F.kb5 Td.kmd [(3, .ptr (some (.new b1 0))), (4, .ptr (some (.new b2 0))), (7, .int .i64 a), (9, .int .i64 (i : Int))]) h0) fun v h' => (∃ r, v = .bool r) ∧ Grow h0 h' := by
 intro k
 induction k with
 | zero =>
  intro i a hi
  rw [kt3]
  refine Runs.step (B1.rd 2 rfl (asSl_v _)) ?_
  rw [q.cols.len]
  exact Runs.ifF (decide_eq_false (by omega)) (few_15 q B1 B2 t.bins.length 0 0 (by omega))
 | succ k ih =>
  intro i a hi
  have hi' : i < t.cols.length := by omega
  obtain ⟨r, s', e1, e2, -, -⟩ := q.cols.sl hi'
  have := q.cols.short
  rw [kt3]
  refine Runs.step (B1.rd 2 rfl (asSl_v _)) ?_
  rw [q.cols.len]
  refine Runs.ifT (decide_eq_true (by omega)) (Runs.step (B1.rd 2 rfl (asSl_v _)) (Runs.step e1 (Runs.step e2 (Runs.cond (fun _ => Runs.ret ⟨⟨_, rfl⟩, Grow.refl _⟩) fun _ => ?_))))
  rw [kf (by omega)]
  exact ih (i + 1) _ (by omega)
theorem koj {h : AH} {cs : List AV} (a : ArgT Pg h T.kb6 cs) : ∃ (s : Sl) (xs : List Int), cs = [s.v] ∧ Sq EI h Fp.no s xs := ky1 Fp.no k8w kvz kh1 a
theorem tab_of {h : AH} {x : AV} (a : ArgV Pg h T.ku x) : ∃ (s1 s2 s3 : Sl) (t : Tb), x = .agg [s1.v, s2.v, s3.v] ∧ TabAt h Fp.no s1 s2 s3 t := by
 unfold ArgV at a
 rw [kup] at a
 obtain ⟨cs, rfl, t⟩ := a
 obtain ⟨hl, hf⟩ := t.struct kup
 rw [k9t] at hl
 match cs, hl with
 | [x0, x1, x2], _ =>
  simp [kt5, kw1] at hf
  obtain ⟨h0, h1, h2⟩ := hf
  obtain ⟨s1, xs, e0, n0⟩ := koj h0
  obtain ⟨s2, ys, e1, n1⟩ := koj h1
  obtain ⟨s3, zs, e2, n2⟩ := Sq.of_arg (E := Ef.seq EI) (S := Fp.no) k3j kt5 (fun es t => by
   obtain ⟨s, l, e, n⟩ := koj t
   exact ⟨l, s, e, n⟩) h2
  cases e0; cases e1; cases e2
  exact ⟨s1, s2, s3, ⟨xs, ys, zs⟩, rfl, n0, n1, n2⟩
theorem k3m {h : AH} {cs : List AV} (a : ArgT Pg h T.kmf cs) : ∃ (s : Sl) (xs : List Nat), cs = [s.v] ∧ Nats h s xs := by
 rcases a.slice k4a with rfl | ⟨ad, len, cap, rfl, h1, h2, h3⟩
 ·exact ⟨⟨none, 0, .is 0⟩, [], rfl, Nats.nil h⟩
 ·rw [khq] at h3
  have key : ∀ i, i < len → ∃ x : Nat, h.cell (.old (ad.add i)) = some (u64 x) ∧ x < 18446744073709551616 := by
   intro i hi
   obtain ⟨es, e1, e2⟩ := h3 i hi
   obtain ⟨x, rfl, hw⟩ := e2.int ksk
   rw [Nat.mul_one] at e1
   have hx : 0 ≤ x ∧ x < 18446744073709551616 := by
    have : 0 ≤ x ∧ x ≤ 18446744073709551615 := by simpa [Lit.wf, IntKind.has, IntKind.min, IntKind.max, IntKind.bits, IntKind.signed] using hw
    omega
   refine ⟨x.toNat, ?_, by omega⟩
   show _ = some (AV.int .u64 ((x.toNat : Nat) : Int))
   rw [show ((x.toNat : Nat) : Int) = x from by omega]
   simp only [AH.gets, Option.bind_eq_some_iff, Option.map_eq_some_iff] at e1
   obtain ⟨v, e3, l, e4, e5⟩ := e1
   simp only [List.cons.injEq] at e5
   rw [e3, e5.1]
  have mk : ∀ n, n ≤ len → ∃ xs : List Nat, xs.length = n ∧ ∀ (i : Nat) (hi : i < xs.length), h.cell (.old (ad.add i)) = some (u64 xs[i]) ∧ xs[i] < 18446744073709551616 := by
   intro n
   induction n with
   | zero => exact fun _ => ⟨[], rfl, fun i hi => by simp at hi⟩
   | succ n ih =>
    intro hn
    obtain ⟨xs, hl, hx⟩ := ih (by omega)
    obtain ⟨x, k1, k2⟩ := key n (by omega)
    refine ⟨xs ++ [x], by simp [hl], fun i hi => ?_⟩
    simp only [List.length_append, List.length_singleton] at hi
    by_cases hin : i < xs.length
    ·rw [List.getElem_append_left hin]
     exact hx i hin
    ·have : i = n := by omega
     subst this
     rw [List.getElem_append_right (by omega)]
     simp only [hl, Nat.sub_self, List.getElem_singleton]
     exact ⟨k1, k2⟩
  obtain ⟨xs, hl, hx⟩ := mk len (Nat.le_refl _)
  refine ⟨⟨some (.old ad), len, .is cap⟩, xs, rfl, ⟨⟨h1, by simp [hl], fun i v hv => ?_⟩, fun x hx' => ?_, ?_⟩⟩
  ·rw [List.getElem?_map, Option.map_eq_some_iff] at hv
   obtain ⟨x, e1, rfl⟩ := hv
   obtain ⟨hi, rfl⟩ := List.getElem?_eq_some_iff.1 e1
   exact ⟨_, rfl, (hx i hi).1⟩
  ·obtain ⟨i, hi, rfl⟩ := List.getElem_of_mem hx'
   exact (hx i hi).2
  ·have : maxLen = 9223372036854775807 := by decide
   omega
theorem k58 {h : AH} {x : AV} (a : ArgV Pg h T.kn x) : ∃ (n : Int) (s : Sl) (w : List Nat), x = .agg [.int .i64 n, s.v] ∧ Nats h s w := by
 unfold ArgV at a
 rw [ktt] at a
 obtain ⟨cs, rfl, t⟩ := a
 obtain ⟨hl, hf⟩ := t.struct ktt
 rw [kbbd] at hl
 match cs, hl with
 | [x0, x1], _ =>
  simp [kh1, kw6] at hf
  obtain ⟨h0, h1⟩ := hf
  obtain ⟨n, e0, -⟩ := ArgT.int kvz h0
  obtain ⟨s, w, e1, N⟩ := k3m h1
  cases e0; cases e1
  exact ⟨n, s, w, rfl, N⟩
end
end Go.Ab

/- squeezed -/
set_option linter.unusedVariables false
set_option linter.unusedSimpArgs false
set_option maxRecDepth 10000
namespace Go.Ab
open Go.Proofs Go.Num
end Go.Ab

/- squeezed -/
set_option linter.unusedVariables false
set_option linter.unusedSimpArgs false
set_option maxRecDepth 10000
namespace Go.Ab
open Go.Proofs Go.Num
section
variable {h0 : AH} {s1 s2 s3 : Sl} {ns cs ds : List Nat}
theorem kzs (N : Nats h0 s1 ns) : Runs (go (.fn F.kpn [s1.v]) h0) fun v h' => ∃ (b : Nat) (t : Sl), v = .func (.func F.kdm) [] [.ptr (some (.new b 0))] ∧ h0.blks.size ≤ b ∧ h'.has b [t.v] T.kp ∧ Nats h' t (kb1 ns) ∧ Grow h0 h' := by
 rw [kwu]
 obtain ⟨t, h1, e, N1, g1, o1⟩ := kpl N N
 rw [e, Option.bind_some]
 refine Runs.step rfl (Runs.step (seen (asSl_v _)) (Runs.step (seen (kc _ _)) ?_))
 dsimp only
 refine Runs.new fun h2 b2 g2 => Runs.puts b2 rfl fun h3 b3 u3 => ?_
 have g3 : Grow h1 h3 := g2.updr (Nat.le_refl _) u3
 exact Runs.ret ⟨h1.blks.size, t, rfl, g1.size, b3, N1.grow g3, g1.trans g3⟩
theorem k6y {a b t : Sl} {xs ys zs : List Nat} (A : Nats h0 a xs) (B' : Nats h0 b ys) (Z : Nats h0 t zs) {k : Nat} {e : TypeId} (hk : h0.has k [t.v] e) : Runs (go (.fn F.kdm [a.v, b.v, .ptr (some (.new k 0))]) h0) fun v h' => ∃ s : Sl, v = s.v ∧ Nats h' s (kja xs ys zs) ∧ Grow h0 h' ∧ Own h0 s := by
 rw [k2v]
 obtain ⟨p, h1, e1, N1, g1, o1⟩ := kpl A B'
 rw [e1, Option.bind_some]
 refine Runs.step rfl (Runs.step (seen (asSl_v _)) (Runs.step (seen (kc _ _)) ?_))
 dsimp only
 refine Runs.step ((g1.has hk).rd0 rfl (asSl_v _)) ?_
 obtain ⟨q, r, h2, e2, N2, N3, g2, o2, o3⟩ := kvv N1 (Z.grow g1)
 rw [e2, Option.bind_some]
 refine Runs.step rfl (Runs.step (seen (asSl_v _)) (Runs.step (seen (asSl_v _)) (Runs.step (seen (kc _ _)) ?_)))
 exact Runs.ret ⟨r, rfl, N3, g1.trans g2, o3.of_le g1⟩
end
end Go.Ab

/- squeezed -/
set_option linter.unusedVariables false
set_option linter.unusedSimpArgs false
set_option maxRecDepth 10000
namespace Go.Ab
open Go.Proofs Go.Num
structure LpS {α : Type} (E : Ef α) (elem tl : TypeId) (note : LoopState → ABlk) (hs : AH) (bo l : Nat) (xs : List α) (h : AH) : Prop where
 md : Md (fun m => m = bo ∨ m = l) hs h
 note : h.blks[l]? = some (note .ready)
 out : ∃ (S : Fp) (t : Sl) (j : Option Nat), (∀ m, S m → hs.blks.size ≤ m) ∧ h.has bo [t.v] tl ∧ LeO hs.blks.size j ∧ GF E elem h S t j xs
section
variable {α : Type} {E : Ef α} {elem tl : TypeId} {note : LoopState → ABlk} {hs h : AH} {bo l : Nat} {xs : List α}
theorem LpS.grow {h' : AH} (L : LpS E elem tl note hs bo l xs h) (g : Grow h h') : LpS E elem tl note hs bo l xs h' :=
 ⟨L.md.thenG g, (g.blk l (Array.getElem?_eq_some_iff.1 L.note).1).trans L.note, L.out.imp fun _ ⟨t, j, a, B, lj, V⟩ => ⟨t, j, a, g.has B, lj, V.grow g⟩⟩
theorem k1v {S Tx : Fp} {t : Sl} {j : Option Nat} {x : α} {cs : List AV} {k : Nat} {e' : TypeId} (hS : ∀ m, S m → hs.blks.size ≤ m) (hT : ∀ m, Tx m → hs.blks.size ≤ m) (hTj : NotO Tx j) (B : h.has bo [t.v] tl) (hn : h.blks[l]? = some (note .busy)) (hbl : bo ≠ l) (hbs : bo < hs.blks.size) (hls : l < hs.blks.size) (hsh : hs.blks.size ≤ h.blks.size) (lj : LeO hs.blks.size j) (V : GF E elem h S t j xs) (hx : E.has h Tx cs x) (hg : growOk Pg (xs.length + 1) elem E.w = true) (bx : h.has k cs e') (hcs : 1 * Pg.cellsOf elem = cs.length) (hend : ∀ h', h'.blks[l]? = some (note .busy) → kb4 l none h' = some (.bool true, h'.setBlk l (note .ready))) :
  Runs ((kbc Pg elem ((⟨some (.new k 0), 1, .is 1⟩ : Sl).v) h).bind fun p => (kr Pg t p.1 p.2 elem E.w h).bind fun q => (AV.asSl q.1).bind fun l12 => (q.2.puts (.new bo 0) [l12.v]).bind fun h13 => kb4 l none h13) fun v h' => v = .bool true ∧ Md (fun m => m = bo ∨ m = l ∨ j = some m) h h' ∧ h'.blks[l]? = some (note .ready) ∧ ∃ (S : Fp) (t : Sl) (j : Option Nat), (∀ m, S m → hs.blks.size ≤ m) ∧ h'.has bo [t.v] tl ∧ LeO hs.blks.size j ∧ GF E elem h' S t j (xs ++ [x]) := by
 refine Runs.step (kfw bx hcs) ?_
 obtain ⟨t', h3, e3, V3, u3⟩ := V.push (T := Tx) hx hTj hg
 refine Runs.step e3 (Runs.step (asSl_v _) ?_)
 have m3 : Md (Fp.opt j) h h3 := u3.md fun k e => e
 have no : ∀ {m : Nat}, m < hs.blks.size → ¬ Fp.opt j m := fun hm e => kc3 hm lj _ e rfl
 have B3 : h3.has bo [t.v] tl := m3.has B (no hbs)
 have n3 : h3.blks[l]? = some (note .busy) := m3.get hn (no hls)
 refine Runs.puts B3 rfl fun h4 B4 u4 => ?_
 have n4 : h4.blks[l]? = some (note .busy) := (u4.blk l (fun e => hbl e.symm) (Array.getElem?_eq_some_iff.1 n3).1).trans n3
 rw [hend _ n4]
 have u5 : Upd h4 (h4.setBlk l (note .ready)) l := AH.setBlk_Upd _
 have hS' : ∀ m, ((Fp.or S Tx) m ∧ m < h.blks.size) → hs.blks.size ≤ m := fun m x => x.1.elim (hS m) (hT m)
 refine Runs.ret ⟨rfl, ?_, AH.setBlk_get (Array.getElem?_eq_some_iff.1 n4).1, _, t', some h.blks.size, hS', B4.updr hbl u5, hsh, ?_⟩
 ·refine ((m3.mono fun m _ e => .inr (.inr e)).trans (u4.md (.inl rfl))).trans (u5.md (.inr (.inl rfl)))
 ·exact (V3.upd u4 (fun x => by have := hS' _ x; omega) fun k e => by cases e; omega).upd u5 (fun x => by have := hS' _ x; omega) fun k e => by cases e; omega
theorem LpS.next {xs ys : List α} {h h1 h' : AH} {j : Option Nat} (m1 : Md (fun m => m = bo ∨ m = l) hs h1) (lj : LeO hs.blks.size j) (m2 : Md (fun m => m = bo ∨ m = l ∨ j = some m) h1 h') (hn : h'.blks[l]? = some (note .ready)) (o : ∃ (S : Fp) (t : Sl) (j : Option Nat), (∀ m, S m → hs.blks.size ≤ m) ∧ h'.has bo [t.v] tl ∧ LeO hs.blks.size j ∧ GF E elem h' S t j ys) : LpS E elem tl note hs bo l ys h' :=
 ⟨m1.next m2 fun m hm t => t.elim .inl fun t => t.elim .inr fun e => absurd rfl (kc3 hm lj _ e), hn, o⟩
end
noncomputable def prodC (qs : List Nat) (cs : List (List Nat)) (l : List Nat) (p : List Nat) : List Nat := l.foldl (fun p i => kja p (cs.getD i []) qs) p
end Go.Ab
