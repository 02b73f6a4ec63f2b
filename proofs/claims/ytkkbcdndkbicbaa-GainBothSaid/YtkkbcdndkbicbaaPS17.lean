/- Layer 1: the school product: printed by wip/tools/walk.py. -/
import Derived.Test.YtkkbcdndkbicbaaPS2
import Derived.Test.YtkkbcdndkbicbaaPAbsM

set_option linter.unusedVariables false
set_option linter.unusedSimpArgs false
set_option maxRecDepth 10000
namespace Go.Ab
open Go.Proofs Go.Num

inductive nat_school_St
  | fn (x1 : List Nat) (x2 : List Nat)
  | p3 (x1 : List Nat) (x2 : List Nat) (x3 : List Nat) (a4 : Int) (a5 : Int)
  | p7 (x1 : List Nat) (x2 : List Nat) (a3 : Int) (a4 : Int) (a5 : Int) (x6 : List Nat) (a7 : Int) (a8 : Int) (x9 : List Nat) (a10 : Int) (a11 : Int)

abbrev nat_school_Res := List Nat

noncomputable def nat_school_fn' (x1 : List Nat) (x2 : List Nat) : Option (nat_school_St ⊕ nat_school_Res) :=
  (mkI (IntKind.wrap .i64 ((List.length x1 : Int) + (List.length x2 : Int))) (IntKind.wrap .i64 ((List.length x1 : Int) + (List.length x2 : Int)))).bind fun m3 => some (.inl (.p3 x2 (List.replicate m3 0) x1 (List.length x1 : Int) 0))

noncomputable def nat_school_p3' (x1 : List Nat) (x2 : List Nat) (x3 : List Nat) (a4 : Int) (a5 : Int) : Option (nat_school_St ⊕ nat_school_Res) :=
  cond (decide (a5 < a4)) ((atI x3 a5).bind fun y7 => some (.inl (.p7 x1 x2 a5 ((y7 : Int)) 0 x3 a4 a5 x1 (List.length x1 : Int) 0))) (some (.inr (digs B (num B x2))))

noncomputable def nat_school_p7' (x1 : List Nat) (x2 : List Nat) (a3 : Int) (a4 : Int) (a5 : Int) (x6 : List Nat) (a7 : Int) (a8 : Int) (x9 : List Nat) (a10 : Int) (a11 : Int) : Option (nat_school_St ⊕ nat_school_Res) :=
  cond (decide (a11 < a10)) ((atI x9 a11).bind fun y13 => (inI (List.length x2) (IntKind.wrap .i64 (a3 + a11))).bind fun j15 => (add64P ((mul64 a4 ((y13 : Int))).2) (((List.getD x2 j15 0 : Nat) : Int)) 0).bind fun p16 => (add64P (p16.1) a5 0).bind fun p17 => (inI (List.length x2) (IntKind.wrap .i64 (a3 + a11))).bind fun j18 => (u64P (p17.1)).bind fun w19 => some (.inl (.p7 x1 (List.set x2 j18 w19) a3 a4 (IntKind.wrap .u64 ((IntKind.wrap .u64 (((mul64 a4 ((y13 : Int))).1) + (p16.2))) + (p17.2))) x6 a7 a8 x9 a10 (IntKind.wrap .i64 (a11 + 1))))) ((inI (List.length x2) (IntKind.wrap .i64 (a3 + (List.length x1 : Int)))).bind fun j13 => (u64P a5).bind fun w14 => some (.inl (.p3 x1 (List.set x2 j13 w14) x6 a7 (IntKind.wrap .i64 (a8 + 1)))))

noncomputable def nat_school_step : nat_school_St → Option (nat_school_St ⊕ nat_school_Res)
  | .fn x1 x2 => nat_school_fn' x1 x2
  | .p3 x1 x2 x3 a4 a5 => nat_school_p3' x1 x2 x3 a4 a5
  | .p7 x1 x2 a3 a4 a5 x6 a7 a8 x9 a10 a11 => nat_school_p7' x1 x2 a3 a4 a5 x6 a7 a8 x9 a10 a11

@[reducible] def nat_school_post (h0 : AH) (r : nat_school_Res) (v : AV) (h' : AH) : Prop := ∃ s1 : Sl, v = s1.v ∧ Nats h' s1 r ∧ Grow h0 h' ∧ Own h0 s1

def nat_school_At (r : nat_school_Res) : nat_school_St → Prop
  | .fn x1 x2 => ∀ {h : AH} {a1 : Sl} {a2 : Sl}, Nats h a1 x1 → Nats h a2 x2 → Runs (go (.fn F.nat_school [a1.v, a2.v]) h) (nat_school_post h r)
  | .p3 x1 x2 x3 a4 a5 => ∀ {h0 h : AH} {a1 : Sl} {a2 : Sl} {a3 : Sl} {i2 : Nat}, Grow h0 h → Nats h a1 x1 → Vec h a2 i2 x2 → Nats h a3 x3 → h0.blks.size ≤ i2 → Av a1 i2 x1 → Av a3 i2 x3 → Runs (go (.pt F.nat_school Td.nat_school_3 [(1, a1.v), (5, a2.v), (20, a3.v), (21, .int .i64 a4), (22, .int .i64 a5)]) h) (nat_school_post h0 r)
  | .p7 x1 x2 a3 a4 a5 x6 a7 a8 x9 a10 a11 => ∀ {h0 h : AH} {a1 : Sl} {a2 : Sl} {a6 : Sl} {a9 : Sl} {i2 : Nat}, Grow h0 h → Nats h a1 x1 → Vec h a2 i2 x2 → Nats h a6 x6 → Nats h a9 x9 → h0.blks.size ≤ i2 → Av a1 i2 x1 → Av a6 i2 x6 → Av a9 i2 x9 → Runs (go (.pt F.nat_school Td.nat_school_7 [(1, a1.v), (5, a2.v), (6, .int .i64 a3), (7, .int .u64 a4), (8, .int .u64 a5), (20, a6.v), (21, .int .i64 a7), (22, .int .i64 a8), (27, a9.v), (28, .int .i64 a10), (29, .int .i64 a11)]) h) (nat_school_post h0 r)

theorem nat_school_fn_walk {r : nat_school_Res} {o : nat_school_St ⊕ nat_school_Res} {x1 : List Nat} {x2 : List Nat} (e : nat_school_fn' x1 x2 = some o) (good : GoodS (nat_school_At r) r o) : nat_school_At r (.fn x1 x2) := by
  intro h a1 a2 n1 n2
  rw [u_nat_school]
  unfold nat_school_fn' at e
  rw [n1.len]
  rw [n2.len]
  obtain ⟨m3, q3, e⟩ := Option.bind_eq_some_iff.1 e
  refine Runs.mk q3 bytes_uint64 fun s3 H3 v3 g3 => ?_
  cases e
  exact good g3 (n2.grow g3) v3 (n1.grow g3) (Nat.le_refl _) (Av.of_base n2 (Nat.le_refl _)) (Av.of_base n1 (Nat.le_refl _))

theorem nat_school_p3_walk {r : nat_school_Res} {o : nat_school_St ⊕ nat_school_Res} {x1 : List Nat} {x2 : List Nat} {x3 : List Nat} {a4 : Int} {a5 : Int} (e : nat_school_p3' x1 x2 x3 a4 a5 = some o) (good : GoodS (nat_school_At r) r o) : nat_school_At r (.p3 x1 x2 x3 a4 a5) := by
  intro h0 h a1 a2 a3 i2 g0 n1 v2 n3 hi2 av1_2 av3_2
  rw [p_nat_school_3]
  unfold nat_school_p3' at e
  rw [n1.len]
  rw [n3.len]
  refine Runs.cond (fun k6 => ?_) (fun k6 => ?_)
  · replace e := (condT k6).symm.trans e
    obtain ⟨y7, q7, e⟩ := Option.bind_eq_some_iff.1 e
    obtain ⟨r7, j7, l7⟩ := n3.atI q7
    refine Runs.step j7 ?_
    refine Runs.step (rdc l7 (avInt_int _ _)) ?_
    cases e
    exact good g0 n1 v2 n3 n1 hi2 av1_2 av3_2 av1_2
  · replace e := (condF k6).symm.trans e
    obtain ⟨s7, e7, n7, o7⟩ := nat_trim_spec v2.nats
    refine Runs.step e7 ?_
    refine Runs.step (seen (asSl_v _)) ?_
    cases e
    cases good
    exact Runs.ret ⟨s7, rfl, n7, g0, ((o7 _ (v2.own hi2)).of_le (Grow.refl _))⟩

theorem nat_school_p7_walk {r : nat_school_Res} {o : nat_school_St ⊕ nat_school_Res} {x1 : List Nat} {x2 : List Nat} {a3 : Int} {a4 : Int} {a5 : Int} {x6 : List Nat} {a7 : Int} {a8 : Int} {x9 : List Nat} {a10 : Int} {a11 : Int} (e : nat_school_p7' x1 x2 a3 a4 a5 x6 a7 a8 x9 a10 a11 = some o) (good : GoodS (nat_school_At r) r o) : nat_school_At r (.p7 x1 x2 a3 a4 a5 x6 a7 a8 x9 a10 a11) := by
  intro h0 h a1 a2 a6 a9 i2 g0 n1 v2 n6 n9 hi2 av1_2 av6_2 av9_2
  rw [p_nat_school_7]
  unfold nat_school_p7' at e
  rw [n1.len]
  rw [v2.nats.len]
  rw [n9.len]
  refine Runs.cond (fun k12 => ?_) (fun k12 => ?_)
  · replace e := (condT k12).symm.trans e
    obtain ⟨y13, q13, e⟩ := Option.bind_eq_some_iff.1 e
    obtain ⟨r13, j13, l13⟩ := n9.atI q13
    refine Runs.step j13 ?_
    refine Runs.step (rdc l13 (avInt_int _ _)) ?_
    refine Runs.step (math_bits_Mul64_spec a4 ((y13 : Int))) ?_
    refine Runs.step rfl ?_
    refine Runs.step (seen (avInt_int _ _)) ?_
    refine Runs.step (seen (avInt_int _ _)) ?_
    obtain ⟨j15, q15, e⟩ := Option.bind_eq_some_iff.1 e
    refine Runs.step (v2.idx rfl q15) ?_
    refine Runs.step (v2.rd rfl q15 (avInt_int _ _)) ?_
    obtain ⟨p16, q16, e⟩ := Option.bind_eq_some_iff.1 e
    refine Runs.step (prim_add64 q16) ?_
    refine Runs.step rfl ?_
    refine Runs.step (seen (avInt_int _ _)) ?_
    refine Runs.step (seen (avInt_int _ _)) ?_
    obtain ⟨p17, q17, e⟩ := Option.bind_eq_some_iff.1 e
    refine Runs.step (prim_add64 q17) ?_
    refine Runs.step rfl ?_
    refine Runs.step (seen (avInt_int _ _)) ?_
    refine Runs.step (seen (avInt_int _ _)) ?_
    obtain ⟨j18, q18, e⟩ := Option.bind_eq_some_iff.1 e
    refine Runs.step (v2.idx rfl q18) ?_
    obtain ⟨w19, z19, e⟩ := Option.bind_eq_some_iff.1 e
    refine Runs.vput v2 rfl q18 z19 fun H19 v19 u19 => ?_
    have n1_19 := n1.upda av1_2 u19
    have n6_19 := n6.upda av6_2 u19
    have n9_19 := n9.upda av9_2 u19
    cases e
    exact good (g0.updr hi2 u19) n1_19 v19 n6_19 n9_19 hi2 av1_2 av6_2 av9_2
  · replace e := (condF k12).symm.trans e
    obtain ⟨j13, q13, e⟩ := Option.bind_eq_some_iff.1 e
    refine Runs.step (v2.idx rfl q13) ?_
    obtain ⟨w14, z14, e⟩ := Option.bind_eq_some_iff.1 e
    refine Runs.vput v2 rfl q13 z14 fun H14 v14 u14 => ?_
    have n1_14 := n1.upda av1_2 u14
    have n6_14 := n6.upda av6_2 u14
    have n9_14 := n9.upda av9_2 u14
    cases e
    exact good (g0.updr hi2 u14) n1_14 v14 n6_14 hi2 av1_2 av6_2

theorem nat_school_run {s : nat_school_St} {r : nat_school_Res} (it : Iter nat_school_step s r) : nat_school_At r s := Iter.ind (fun s o e good => by
  cases s with
  | fn x1 x2 => exact @nat_school_fn_walk _ _ x1 x2 e good
  | p3 x1 x2 x3 a4 a5 => exact @nat_school_p3_walk _ _ x1 x2 x3 a4 a5 e good
  | p7 x1 x2 a3 a4 a5 x6 a7 a8 x9 a10 a11 => exact @nat_school_p7_walk _ _ x1 x2 a3 a4 a5 x6 a7 a8 x9 a10 a11 e good
  ) it

theorem nat_school_opt {h : AH} {a1 : Sl} {a2 : Sl} {x1 : List Nat} {x2 : List Nat} (n1 : Nats h a1 x1) (n2 : Nats h a2 x2) {r : nat_school_Res} (q : runP nat_school_step (.fn x1 x2) = some r) : Runs (go (.fn F.nat_school [a1.v, a2.v]) h) (nat_school_post h r) := nat_school_run (runP_iter q) n1 n2

end Go.Ab

/- Layer 1: what the school product answers. -/
set_option linter.unusedVariables false
set_option linter.unusedSimpArgs false
set_option maxRecDepth 10000
namespace Go.Ab
open Go.Proofs Go.Num

theorem carry_eq {t o c : Nat} (ho : o < 18446744073709551616) (hc : c < 18446744073709551616) (h : (t + o + c) / 18446744073709551616 < 18446744073709551616) :
    ((t % 18446744073709551616 + o + 0) % 18446744073709551616 + c + 0) % 18446744073709551616 = (t + o + c) % 18446744073709551616 ∧
    IntKind.wrap .u64 (IntKind.wrap .u64 (((t / 18446744073709551616 : Nat) : Int) + (((t % 18446744073709551616 + o + 0) / 18446744073709551616 : Nat) : Int)) + ((((t % 18446744073709551616 + o + 0) % 18446744073709551616 + c + 0) / 18446744073709551616 : Nat) : Int)) = (((t + o + c) / 18446744073709551616 : Nat) : Int) := by
  rw [wrapU, wrapU]
  omega

/-- Nothing stands from place k on. -/
def Empty (o : List Nat) (k : Nat) : Prop := ∀ j (h : j < o.length), k ≤ j → o[j] = 0

theorem Empty.set {o : List Nat} {k j w : Nat} (z : Empty o k) (hj : j < k) : Empty (o.set j w) k := fun t ht hk => by
  rw [List.getElem_set_ne (by omega)]
  exact z t (by simpa using ht) hk

theorem Empty.succ {o : List Nat} {k : Nat} (z : Empty o k) : Empty o (k + 1) := fun t ht hk => z t ht (by omega)

theorem set_lt {b : Nat} {o : List Nat} {j w : Nat} (h : ∀ x ∈ o, x < b) (hw : w < b) : ∀ x ∈ o.set j w, x < b := fun x hx => by
  rcases List.mem_or_eq_of_mem_set hx with h1 | h1
  · exact h x h1
  · rw [h1]; exact hw

theorem school_row {xs ys : List Nat} {r : nat_school_Res} {i x T : Nat} (hx : x < B) (ly : ∀ y ∈ ys, y < B) (hn : xs.length + ys.length ≤ 8796093022208) (hi : i < xs.length)
    (K : ∀ o : List Nat, o.length = xs.length + ys.length → (∀ y ∈ o, y < B) → Empty o (i + 1 + ys.length) → num B o = T + B ^ i * (x * num B ys) → Iter nat_school_step (.p3 ys o xs (xs.length : Int) ((i + 1 : Nat) : Int)) r) :
    ∀ (d k : Nat), k + d = ys.length → ∀ (o : List Nat) (c : Nat), o.length = xs.length + ys.length → (∀ y ∈ o, y < B) → Empty o (i + ys.length) → c < B → Row B o i k c x ys T →
      Iter nat_school_step (.p7 ys o (i : Int) (x : Int) (c : Int) xs (xs.length : Int) (i : Int) ys (ys.length : Int) (k : Int)) r
  | 0, k, hk, o, c, lo, to, zo, hc, row => by
    have hk : k = ys.length := by omega
    subst hk
    have hj : i + ys.length < o.length := by omega
    refine .next ?_ (K (o.set (i + ys.length) c) (by simpa using lo) (set_lt to hc) ?_ ?_)
    · show nat_school_p7' _ _ _ _ _ _ _ _ _ _ _ = _
      unfold nat_school_p7'
      rw [condF (by rw [decide_eq_false_iff_not]; omega), ← Int.natCast_add, wrap_nat (by omega), inI_nat hj, Option.bind_some, u64P_nat hc, Option.bind_some, wrap_succ (by omega)]
    · rw [show i + 1 + ys.length = i + ys.length + 1 from by omega]
      intro j h1 h2
      rw [List.getElem_set_ne (by omega)]
      exact zo j (by simpa using h1) (by omega)
    · exact row.stop hj (zo _ hj (Nat.le_refl _))
  | d + 1, k, hk, o, c, lo, to, zo, hc, row => by
    have hk' : k < ys.length := by omega
    have hj : i + k < o.length := by omega
    have hy := ly ys[k] (List.getElem_mem _)
    have ho := to o[i + k] (List.getElem_mem _)
    have hc' := carry_lt hx hy ho hc
    obtain ⟨c1, c2⟩ := carry_eq ho hc hc'
    have hl := Nat.mod_lt (x * ys[k] + o[i + k] + c) (show 0 < 18446744073709551616 by omega)
    refine .next ?_ (school_row hx ly hn hi K d (k + 1) (by omega) (o.set (i + k) ((x * ys[k] + o[i + k] + c) % 18446744073709551616)) ((x * ys[k] + o[i + k] + c) / 18446744073709551616) (by simpa using lo) (set_lt to hl) (zo.set (by omega)) hc' (row.step hk' hj (Nat.div_add_mod' _ _).symm))
    · show nat_school_p7' _ _ _ _ _ _ _ _ _ _ _ = _
      unfold nat_school_p7'
      rw [condT (by rw [decide_eq_true_eq]; omega), atI_nat hk', Option.bind_some, ← Int.natCast_add, wrap_nat (by omega), inI_nat hj, Option.bind_some, mul64_eq hx hy]
      dsimp only
      rw [show List.getD o (i + k) 0 = o[i + k] from getD_lt hj]
      have a1 := add64P_nat (x * ys[k] % B) o[i + k] (c := 0) (by omega)
      have a2 := add64P_nat ((x * ys[k] % B + o[i + k] + 0) % 18446744073709551616) c (c := 0) (by omega)
      rw [show ((0 : Nat) : Int) = 0 from rfl] at a1 a2
      rw [a1, Option.bind_some]
      dsimp only
      rw [a2, Option.bind_some, Option.bind_some]
      dsimp only
      rw [c1, c2, u64P_nat hl, Option.bind_some, wrap_succ (by omega)]

theorem school_rows {xs ys : List Nat} (lx : ∀ x ∈ xs, x < B) (ly : ∀ y ∈ ys, y < B) (hn : xs.length + ys.length ≤ 8796093022208) :
    ∀ (d i : Nat), i + d = xs.length → ∀ (o : List Nat), o.length = xs.length + ys.length → (∀ y ∈ o, y < B) → Empty o (i + ys.length) → num B o = num B (xs.take i) * num B ys →
      Iter nat_school_step (.p3 ys o xs (xs.length : Int) (i : Int)) (digs B (num B xs * num B ys))
  | 0, i, hi, o, lo, to, zo, e => by
    have hi : i = xs.length := by omega
    subst hi
    rw [List.take_length] at e
    refine .done ?_
    show nat_school_p3' _ _ _ _ _ = _
    unfold nat_school_p3'
    rw [condF (by rw [decide_eq_false_iff_not]; omega), e]
  | d + 1, i, hi, o, lo, to, zo, e => by
    have hi' : i < xs.length := by omega
    refine .next (s' := .p7 ys o (i : Int) (xs[i] : Int) ((0 : Nat) : Int) xs (xs.length : Int) (i : Int) ys (ys.length : Int) ((0 : Nat) : Int)) ?_
      (school_row (T := num B (xs.take i) * num B ys) (lx _ (List.getElem_mem _)) ly hn hi' (fun o' l' t' z' e' => ?_) ys.length 0 (by omega) o 0 lo to zo (show 0 < 18446744073709551616 by omega) (Row.start e))
    · show nat_school_p3' _ _ _ _ _ = _
      unfold nat_school_p3'
      rw [condT (by rw [decide_eq_true_eq]; omega), atI_nat hi', Option.bind_some]
      rfl
    · refine school_rows lx ly hn d (i + 1) (by omega) o' l' t' z' ?_
      rw [e', rows_step hi' rfl]

theorem nat_school_iter {xs ys : List Nat} (lx : ∀ x ∈ xs, x < B) (ly : ∀ y ∈ ys, y < B) (hn : xs.length + ys.length ≤ 8796093022208) : Iter nat_school_step (.fn xs ys) (digs B (num B xs * num B ys)) := by
  have z : ∀ k, Empty (List.replicate (xs.length + ys.length) 0) k := fun k j hj _ => by simp
  refine .next (s' := .p3 ys (List.replicate (xs.length + ys.length) 0) xs (xs.length : Int) ((0 : Nat) : Int)) ?_ (school_rows lx ly hn xs.length 0 (by omega) _ (by simp) ?_ (z _) ?_)
  · show nat_school_fn' _ _ = _
    unfold nat_school_fn'
    rw [← Int.natCast_add, wrap_nat (by omega), mkI_nat hn, Option.bind_some]
    rfl
  · intro y hy
    rw [List.eq_of_mem_replicate hy]
    exact show 0 < 18446744073709551616 by omega
  · have := num_noughts B [] (xs.length + ys.length)
    simpa [num] using this

theorem nat_school_spec {h : AH} {s t : Sl} {xs ys : List Nat} (n : Nats h s xs) (m : Nats h t ys) (hn : xs.length + ys.length ≤ 8796093022208) : ∃ (s' : Sl) (h' : AH), go (.fn F.nat_school [s.v, t.v]) h = some (s'.v, h') ∧ Nats h' s' (digs B (num B xs * num B ys)) ∧ Grow h h' ∧ Own h s' := by
  obtain ⟨_, h', e, s', rfl, n', g, o⟩ := nat_school_run (nat_school_iter n.lt m.lt hn) n m
  exact ⟨s', h', e, n', g, o⟩

end Go.Ab

/- Layer 1: the document's product: printed by wip/tools/walk.py. -/
set_option linter.unusedVariables false
set_option linter.unusedSimpArgs false
set_option maxRecDepth 10000
namespace Go.Ab
open Go.Proofs Go.Num

inductive ref01_mul_St
  | fn (x1 : List Nat) (x2 : List Nat)
  | p3 (x1 : List Nat) (x2 : List Nat) (x3 : List Nat) (a4 : Int)
  | p7 (x1 : List Nat) (x2 : List Nat) (x3 : List Nat) (a4 : Int) (a5 : Int) (a6 : Int)

abbrev ref01_mul_Res := List Nat

noncomputable def ref01_mul_fn' (x1 : List Nat) (x2 : List Nat) : Option (ref01_mul_St ⊕ ref01_mul_Res) :=
  (mkI (IntKind.wrap .i64 ((List.length x1 : Int) + (List.length x2 : Int))) (IntKind.wrap .i64 ((List.length x1 : Int) + (List.length x2 : Int)))).bind fun m3 => some (.inl (.p3 x1 x2 (List.replicate m3 0) 0))

noncomputable def ref01_mul_p3' (x1 : List Nat) (x2 : List Nat) (x3 : List Nat) (a4 : Int) : Option (ref01_mul_St ⊕ ref01_mul_Res) :=
  cond (decide (a4 < (List.length x1 : Int))) (some (.inl (.p7 x1 x2 x3 a4 0 0))) ((need (∀ x ∈ x3, x < D)).bind fun c6_0 => some (.inr (digs D (num D x3))))

noncomputable def ref01_mul_p7' (x1 : List Nat) (x2 : List Nat) (x3 : List Nat) (a4 : Int) (a5 : Int) (a6 : Int) : Option (ref01_mul_St ⊕ ref01_mul_Res) :=
  cond (decide (a6 < (List.length x2 : Int))) ((inI (List.length x3) (IntKind.wrap .i64 (a4 + a6))).bind fun j8 => (atI x1 a4).bind fun y9 => (atI x2 a6).bind fun y10 => (inI (List.length x3) (IntKind.wrap .i64 (a4 + a6))).bind fun j11 => (u64P (Int.tmod (IntKind.wrap .u64 ((IntKind.wrap .u64 ((((List.getD x3 j8 0 : Nat) : Int)) + (IntKind.wrap .u64 (((y9 : Int)) * ((y10 : Int)))))) + a5)) 65536)).bind fun w12 => some (.inl (.p7 x1 x2 (List.set x3 j11 w12) a4 (IntKind.wrap .u64 (Int.tdiv (IntKind.wrap .u64 ((IntKind.wrap .u64 ((((List.getD x3 j8 0 : Nat) : Int)) + (IntKind.wrap .u64 (((y9 : Int)) * ((y10 : Int)))))) + a5)) 65536)) (IntKind.wrap .i64 (a6 + 1))))) ((inI (List.length x3) (IntKind.wrap .i64 (a4 + (List.length x2 : Int)))).bind fun j8 => (u64P a5).bind fun w9 => some (.inl (.p3 x1 x2 (List.set x3 j8 w9) (IntKind.wrap .i64 (a4 + 1)))))

noncomputable def ref01_mul_step : ref01_mul_St → Option (ref01_mul_St ⊕ ref01_mul_Res)
  | .fn x1 x2 => ref01_mul_fn' x1 x2
  | .p3 x1 x2 x3 a4 => ref01_mul_p3' x1 x2 x3 a4
  | .p7 x1 x2 x3 a4 a5 a6 => ref01_mul_p7' x1 x2 x3 a4 a5 a6

@[reducible] def ref01_mul_post (h0 : AH) (r : ref01_mul_Res) (v : AV) (h' : AH) : Prop := ∃ s1 : Sl, v = s1.v ∧ Nats h' s1 r ∧ Grow h0 h' ∧ Own h0 s1

def ref01_mul_At (r : ref01_mul_Res) : ref01_mul_St → Prop
  | .fn x1 x2 => ∀ {h : AH} {a1 : Sl} {a2 : Sl}, Nats h a1 x1 → Nats h a2 x2 → Runs (go (.fn F.ref01_mul [a1.v, a2.v]) h) (ref01_mul_post h r)
  | .p3 x1 x2 x3 a4 => ∀ {h0 h : AH} {a1 : Sl} {a2 : Sl} {a3 : Sl} {i3 : Nat}, Grow h0 h → Nats h a1 x1 → Nats h a2 x2 → Vec h a3 i3 x3 → h0.blks.size ≤ i3 → Av a1 i3 x1 → Av a2 i3 x2 → Runs (go (.pt F.ref01_mul Td.ref01_mul_3 [(0, a1.v), (1, a2.v), (5, a3.v), (6, .int .i64 a4)]) h) (ref01_mul_post h0 r)
  | .p7 x1 x2 x3 a4 a5 a6 => ∀ {h0 h : AH} {a1 : Sl} {a2 : Sl} {a3 : Sl} {i3 : Nat}, Grow h0 h → Nats h a1 x1 → Nats h a2 x2 → Vec h a3 i3 x3 → h0.blks.size ≤ i3 → Av a1 i3 x1 → Av a2 i3 x2 → Runs (go (.pt F.ref01_mul Td.ref01_mul_7 [(0, a1.v), (1, a2.v), (5, a3.v), (6, .int .i64 a4), (7, .int .u64 a5), (8, .int .i64 a6)]) h) (ref01_mul_post h0 r)

theorem ref01_mul_fn_walk {r : ref01_mul_Res} {o : ref01_mul_St ⊕ ref01_mul_Res} {x1 : List Nat} {x2 : List Nat} (e : ref01_mul_fn' x1 x2 = some o) (good : GoodS (ref01_mul_At r) r o) : ref01_mul_At r (.fn x1 x2) := by
  intro h a1 a2 n1 n2
  rw [u_ref01_mul]
  unfold ref01_mul_fn' at e
  rw [n1.len]
  rw [n2.len]
  obtain ⟨m3, q3, e⟩ := Option.bind_eq_some_iff.1 e
  refine Runs.mk q3 bytes_uint64 fun s3 H3 v3 g3 => ?_
  cases e
  exact good g3 (n1.grow g3) (n2.grow g3) v3 (Nat.le_refl _) (Av.of_base n1 (Nat.le_refl _)) (Av.of_base n2 (Nat.le_refl _))

theorem ref01_mul_p3_walk {r : ref01_mul_Res} {o : ref01_mul_St ⊕ ref01_mul_Res} {x1 : List Nat} {x2 : List Nat} {x3 : List Nat} {a4 : Int} (e : ref01_mul_p3' x1 x2 x3 a4 = some o) (good : GoodS (ref01_mul_At r) r o) : ref01_mul_At r (.p3 x1 x2 x3 a4) := by
  intro h0 h a1 a2 a3 i3 g0 n1 n2 v3 hi3 av1_3 av2_3
  rw [p_ref01_mul_3]
  unfold ref01_mul_p3' at e
  rw [n1.len]
  refine Runs.cond (fun k5 => ?_) (fun k5 => ?_)
  · replace e := (condT k5).symm.trans e
    cases e
    exact good g0 n1 n2 v3 hi3 av1_3 av2_3
  · replace e := (condF k5).symm.trans e
    obtain ⟨c6_0, q6_0, e⟩ := Option.bind_eq_some_iff.1 e
    obtain ⟨s6, e6, n6, o6⟩ := ref01_cut_spec v3.nats  c6_0.down
    refine Runs.step e6 ?_
    refine Runs.step (seen (asSl_v _)) ?_
    cases e
    cases good
    exact Runs.ret ⟨s6, rfl, n6, g0, ((o6 _ (v3.own hi3)).of_le (Grow.refl _))⟩

theorem ref01_mul_p7_walk {r : ref01_mul_Res} {o : ref01_mul_St ⊕ ref01_mul_Res} {x1 : List Nat} {x2 : List Nat} {x3 : List Nat} {a4 : Int} {a5 : Int} {a6 : Int} (e : ref01_mul_p7' x1 x2 x3 a4 a5 a6 = some o) (good : GoodS (ref01_mul_At r) r o) : ref01_mul_At r (.p7 x1 x2 x3 a4 a5 a6) := by
  intro h0 h a1 a2 a3 i3 g0 n1 n2 v3 hi3 av1_3 av2_3
  rw [p_ref01_mul_7]
  unfold ref01_mul_p7' at e
  rw [n1.len]
  rw [n2.len]
  rw [v3.nats.len]
  refine Runs.cond (fun k7 => ?_) (fun k7 => ?_)
  · replace e := (condT k7).symm.trans e
    obtain ⟨j8, q8, e⟩ := Option.bind_eq_some_iff.1 e
    refine Runs.step (v3.idx rfl q8) ?_
    refine Runs.step (v3.rd rfl q8 (avInt_int _ _)) ?_
    obtain ⟨y9, q9, e⟩ := Option.bind_eq_some_iff.1 e
    obtain ⟨r9, j9, l9⟩ := n1.atI q9
    refine Runs.step j9 ?_
    refine Runs.step (rdc l9 (avInt_int _ _)) ?_
    obtain ⟨y10, q10, e⟩ := Option.bind_eq_some_iff.1 e
    obtain ⟨r10, j10, l10⟩ := n2.atI q10
    refine Runs.step j10 ?_
    refine Runs.step (rdc l10 (avInt_int _ _)) ?_
    obtain ⟨j11, q11, e⟩ := Option.bind_eq_some_iff.1 e
    refine Runs.step (v3.idx rfl q11) ?_
    obtain ⟨w12, z12, e⟩ := Option.bind_eq_some_iff.1 e
    refine Runs.vput v3 rfl q11 z12 fun H12 v12 u12 => ?_
    have n1_12 := n1.upda av1_3 u12
    have n2_12 := n2.upda av2_3 u12
    cases e
    exact good (g0.updr hi3 u12) n1_12 n2_12 v12 hi3 av1_3 av2_3
  · replace e := (condF k7).symm.trans e
    obtain ⟨j8, q8, e⟩ := Option.bind_eq_some_iff.1 e
    refine Runs.step (v3.idx rfl q8) ?_
    obtain ⟨w9, z9, e⟩ := Option.bind_eq_some_iff.1 e
    refine Runs.vput v3 rfl q8 z9 fun H9 v9 u9 => ?_
    have n1_9 := n1.upda av1_3 u9
    have n2_9 := n2.upda av2_3 u9
    cases e
    exact good (g0.updr hi3 u9) n1_9 n2_9 v9 hi3 av1_3 av2_3

theorem ref01_mul_run {s : ref01_mul_St} {r : ref01_mul_Res} (it : Iter ref01_mul_step s r) : ref01_mul_At r s := Iter.ind (fun s o e good => by
  cases s with
  | fn x1 x2 => exact @ref01_mul_fn_walk _ _ x1 x2 e good
  | p3 x1 x2 x3 a4 => exact @ref01_mul_p3_walk _ _ x1 x2 x3 a4 e good
  | p7 x1 x2 x3 a4 a5 a6 => exact @ref01_mul_p7_walk _ _ x1 x2 x3 a4 a5 a6 e good
  ) it

theorem ref01_mul_opt {h : AH} {a1 : Sl} {a2 : Sl} {x1 : List Nat} {x2 : List Nat} (n1 : Nats h a1 x1) (n2 : Nats h a2 x2) {r : ref01_mul_Res} (q : runP ref01_mul_step (.fn x1 x2) = some r) : Runs (go (.fn F.ref01_mul [a1.v, a2.v]) h) (ref01_mul_post h r) := ref01_mul_run (runP_iter q) n1 n2

end Go.Ab

/- Layer 1: what the document's product answers. -/
set_option linter.unusedVariables false
set_option linter.unusedSimpArgs false
set_option maxRecDepth 10000
namespace Go.Ab
open Go.Proofs Go.Num

theorem tmodD (n : Nat) : Int.tmod (n : Int) 65536 = ((n % 65536 : Nat) : Int) := rfl
theorem tdivD (n : Nat) : Int.tdiv (n : Int) 65536 = ((n / 65536 : Nat) : Int) := rfl

theorem wrap_low {n : Nat} (h : n < 18446744073709551616) : IntKind.wrap .u64 (n : Int) = (n : Int) := by
  rw [wrapU]
  omega

theorem mulD_row {xs ys : List Nat} {r : ref01_mul_Res} {i T : Nat} (lx : ∀ x ∈ xs, x < D) (ly : ∀ y ∈ ys, y < D) (hn : xs.length + ys.length ≤ 8796093022208) (hi : i < xs.length)
    (K : ∀ o : List Nat, o.length = xs.length + ys.length → (∀ y ∈ o, y < D) → Empty o (i + 1 + ys.length) → num D o = T + D ^ i * (xs[i] * num D ys) → Iter ref01_mul_step (.p3 xs ys o ((i + 1 : Nat) : Int)) r) :
    ∀ (d k : Nat), k + d = ys.length → ∀ (o : List Nat) (c : Nat), o.length = xs.length + ys.length → (∀ y ∈ o, y < D) → Empty o (i + ys.length) → c < D → Row D o i k c xs[i] ys T →
      Iter ref01_mul_step (.p7 xs ys o (i : Int) (c : Int) (k : Int)) r
  | 0, k, hk, o, c, lo, to, zo, hc, row => by
    have hk : k = ys.length := by omega
    subst hk
    have hj : i + ys.length < o.length := by omega
    have hc' : c < 65536 := hc
    refine .next ?_ (K (o.set (i + ys.length) c) (by simpa using lo) (set_lt to hc) ?_ ?_)
    · show ref01_mul_p7' _ _ _ _ _ _ = _
      unfold ref01_mul_p7'
      rw [condF (by rw [decide_eq_false_iff_not]; omega), ← Int.natCast_add, wrap_nat (by omega), inI_nat hj, Option.bind_some, u64P_nat (by omega), Option.bind_some, wrap_succ (by omega)]
    · rw [show i + 1 + ys.length = i + ys.length + 1 from by omega]
      intro j h1 h2
      rw [List.getElem_set_ne (by omega)]
      exact zo j (by simpa using h1) (by omega)
    · exact row.stop hj (zo _ hj (Nat.le_refl _))
  | d + 1, k, hk, o, c, lo, to, zo, hc, row => by
    have hk' : k < ys.length := by omega
    have hj : i + k < o.length := by omega
    have hx := lx xs[i] (List.getElem_mem _)
    have hy := ly ys[k] (List.getElem_mem _)
    have ho := to o[i + k] (List.getElem_mem _)
    have hc' := carry_lt hx hy ho hc
    have hl := Nat.mod_lt (xs[i] * ys[k] + o[i + k] + c) (show 0 < 65536 by omega)
    refine .next ?_ (mulD_row lx ly hn hi K d (k + 1) (by omega) (o.set (i + k) ((xs[i] * ys[k] + o[i + k] + c) % 65536)) ((xs[i] * ys[k] + o[i + k] + c) / 65536) (by simpa using lo) (set_lt to hl) (zo.set (by omega)) hc' (row.step hk' hj (Nat.div_add_mod' _ _).symm))
    · show ref01_mul_p7' _ _ _ _ _ _ = _
      unfold ref01_mul_p7'
      have hp : xs[i] * ys[k] ≤ 65535 * 65535 := Nat.mul_le_mul (by have : xs[i] < 65536 := hx; omega) (by have : ys[k] < 65536 := hy; omega)
      have ho' : o[i + k] < 65536 := ho
      have hc'' : c < 65536 := hc
      have e1 : IntKind.wrap .u64 (IntKind.wrap .u64 (((List.getD o (i + k) 0 : Nat) : Int) + IntKind.wrap .u64 ((xs[i] : Int) * (ys[k] : Int))) + (c : Int)) = ((xs[i] * ys[k] + o[i + k] + c : Nat) : Int) := by
        rw [show List.getD o (i + k) 0 = o[i + k] from getD_lt hj, ← Int.natCast_mul]
        generalize xs[i] * ys[k] = t at *
        generalize o[i + k] = w at *
        rw [wrap_low (n := t) (by omega), ← Int.natCast_add, wrap_low (by omega), ← Int.natCast_add, wrap_low (by omega)]
        omega
      rw [condT (by rw [decide_eq_true_eq]; omega), ← Int.natCast_add, wrap_nat (by omega), inI_nat hj, Option.bind_some, atI_nat hi, Option.bind_some, atI_nat hk', Option.bind_some, Option.bind_some, e1, tmodD, tdivD, u64P_nat (by omega), Option.bind_some, wrap_succ (by omega), wrap_low]
      have : (xs[i] * ys[k] + o[i + k] + c) / 65536 < 65536 := hc'
      omega

theorem mulD_rows {xs ys : List Nat} (lx : ∀ x ∈ xs, x < D) (ly : ∀ y ∈ ys, y < D) (hn : xs.length + ys.length ≤ 8796093022208) :
    ∀ (d i : Nat), i + d = xs.length → ∀ (o : List Nat), o.length = xs.length + ys.length → (∀ y ∈ o, y < D) → Empty o (i + ys.length) → num D o = num D (xs.take i) * num D ys →
      Iter ref01_mul_step (.p3 xs ys o (i : Int)) (digs D (num D xs * num D ys))
  | 0, i, hi, o, lo, to, zo, e => by
    have hi : i = xs.length := by omega
    subst hi
    rw [List.take_length] at e
    refine .done ?_
    show ref01_mul_p3' _ _ _ _ = _
    unfold ref01_mul_p3'
    rw [condF (by rw [decide_eq_false_iff_not]; omega), need_of to, Option.bind_some, e]
  | d + 1, i, hi, o, lo, to, zo, e => by
    have hi' : i < xs.length := by omega
    refine .next (s' := .p7 xs ys o (i : Int) ((0 : Nat) : Int) ((0 : Nat) : Int)) ?_
      (mulD_row (T := num D (xs.take i) * num D ys) lx ly hn hi' (fun o' l' t' z' e' => ?_) ys.length 0 (by omega) o 0 lo to zo (show 0 < 65536 by omega) (Row.start e))
    · show ref01_mul_p3' _ _ _ _ = _
      unfold ref01_mul_p3'
      rw [condT (by rw [decide_eq_true_eq]; omega)]
      rfl
    · refine mulD_rows lx ly hn d (i + 1) (by omega) o' l' t' z' ?_
      rw [e', rows_step hi' rfl]

theorem ref01_mul_iter {xs ys : List Nat} (lx : ∀ x ∈ xs, x < D) (ly : ∀ y ∈ ys, y < D) (hn : xs.length + ys.length ≤ 8796093022208) : Iter ref01_mul_step (.fn xs ys) (digs D (num D xs * num D ys)) := by
  have z : ∀ k, Empty (List.replicate (xs.length + ys.length) 0) k := fun k j hj _ => by simp
  refine .next (s' := .p3 xs ys (List.replicate (xs.length + ys.length) 0) ((0 : Nat) : Int)) ?_ (mulD_rows lx ly hn xs.length 0 (by omega) _ (by simp) ?_ (z _) ?_)
  · show ref01_mul_fn' _ _ = _
    unfold ref01_mul_fn'
    rw [← Int.natCast_add, wrap_nat (by omega), mkI_nat hn, Option.bind_some]
    rfl
  · intro y hy
    rw [List.eq_of_mem_replicate hy]
    exact show 0 < 65536 by omega
  · have := num_noughts D [] (xs.length + ys.length)
    simpa [num] using this

theorem ref01_mul_spec {h : AH} {s t : Sl} {xs ys : List Nat} (n : Nats h s xs) (m : Nats h t ys) (lx : ∀ x ∈ xs, x < D) (ly : ∀ y ∈ ys, y < D) (hn : xs.length + ys.length ≤ 8796093022208) : ∃ (s' : Sl) (h' : AH), go (.fn F.ref01_mul [s.v, t.v]) h = some (s'.v, h') ∧ Nats h' s' (digs D (num D xs * num D ys)) ∧ Grow h h' ∧ Own h s' := by
  obtain ⟨_, h', e, s', rfl, n', g, o⟩ := ref01_mul_run (ref01_mul_iter lx ly hn) n m
  exact ⟨s', h', e, n', g, o⟩

end Go.Ab

/- Layer 1: into: printed by wip/tools/walk.py. -/
set_option linter.unusedVariables false
set_option linter.unusedSimpArgs false
set_option maxRecDepth 10000
namespace Go.Ab
open Go.Proofs Go.Num

inductive nat_into_St
  | fn (x1 : List Nat) (x2 : List Nat) (a3 : Int)
  | p2 (x1 : List Nat) (x2 : List Nat) (a3 : Int) (a4 : Int) (a5 : Int)

abbrev nat_into_Res := List Nat

noncomputable def nat_into_fn' (x1 : List Nat) (x2 : List Nat) (a3 : Int) : Option (nat_into_St ⊕ nat_into_Res) :=
  some (.inl (.p2 x1 x2 a3 0 a3))

noncomputable def nat_into_p2' (x1 : List Nat) (x2 : List Nat) (a3 : Int) (a4 : Int) (a5 : Int) : Option (nat_into_St ⊕ nat_into_Res) :=
  cond (decide (a5 < (List.length x1 : Int))) (cond (decide ((IntKind.wrap .i64 (a5 - a3)) < (List.length x2 : Int))) (cond (decide ((IntKind.wrap .i64 (a5 - a3)) < (List.length x2 : Int))) ((atI x2 (IntKind.wrap .i64 (a5 - a3))).bind fun y9 => (inI (List.length x1) a5).bind fun j10 => (add64P (((List.getD x1 j10 0 : Nat) : Int)) ((y9 : Int)) a4).bind fun p11 => (inI (List.length x1) a5).bind fun j12 => (u64P (p11.1)).bind fun w13 => some (.inl (.p2 (List.set x1 j12 w13) x2 a3 (p11.2) (IntKind.wrap .i64 (a5 + 1))))) ((inI (List.length x1) a5).bind fun j9 => (add64P (((List.getD x1 j9 0 : Nat) : Int)) 0 a4).bind fun p10 => (inI (List.length x1) a5).bind fun j11 => (u64P (p10.1)).bind fun w12 => some (.inl (.p2 (List.set x1 j11 w12) x2 a3 (p10.2) (IntKind.wrap .i64 (a5 + 1)))))) (cond (decide (a4 > 0)) (cond (decide ((IntKind.wrap .i64 (a5 - a3)) < (List.length x2 : Int))) ((atI x2 (IntKind.wrap .i64 (a5 - a3))).bind fun y10 => (inI (List.length x1) a5).bind fun j11 => (add64P (((List.getD x1 j11 0 : Nat) : Int)) ((y10 : Int)) a4).bind fun p12 => (inI (List.length x1) a5).bind fun j13 => (u64P (p12.1)).bind fun w14 => some (.inl (.p2 (List.set x1 j13 w14) x2 a3 (p12.2) (IntKind.wrap .i64 (a5 + 1))))) ((inI (List.length x1) a5).bind fun j10 => (add64P (((List.getD x1 j10 0 : Nat) : Int)) 0 a4).bind fun p11 => (inI (List.length x1) a5).bind fun j12 => (u64P (p11.1)).bind fun w13 => some (.inl (.p2 (List.set x1 j12 w13) x2 a3 (p11.2) (IntKind.wrap .i64 (a5 + 1)))))) (some (.inr x1)))) (some (.inr x1))

noncomputable def nat_into_step : nat_into_St → Option (nat_into_St ⊕ nat_into_Res)
  | .fn x1 x2 a3 => nat_into_fn' x1 x2 a3
  | .p2 x1 x2 a3 a4 a5 => nat_into_p2' x1 x2 a3 a4 a5

@[reducible] def nat_into_post (h0 : AH) (a : Sl) (i : Nat) (r : nat_into_Res) (v : AV) (h' : AH) : Prop := v = .tup [] ∧ Vec h' a i r ∧ Upd h0 h' i

def nat_into_At (r : nat_into_Res) : nat_into_St → Prop
  | .fn x1 x2 a3 => ∀ {h : AH} {a1 : Sl} {a2 : Sl} {i1 : Nat}, Vec h a1 i1 x1 → Nats h a2 x2 → Av a2 i1 x2 → Runs (go (.fn F.nat_into [a1.v, a2.v, .int .i64 a3]) h) (nat_into_post h a1 i1 r)
  | .p2 x1 x2 a3 a4 a5 => ∀ {h0 h : AH} {a1 : Sl} {a2 : Sl} {i1 : Nat}, Upd h0 h i1 → Vec h a1 i1 x1 → Nats h a2 x2 → Av a2 i1 x2 → Runs (go (.pt F.nat_into Td.nat_into_2 [(0, a1.v), (1, a2.v), (2, .int .i64 a3), (6, .int .u64 a4), (7, .int .i64 a5)]) h) (nat_into_post h0 a1 i1 r)

theorem nat_into_fn_walk {r : nat_into_Res} {o : nat_into_St ⊕ nat_into_Res} {x1 : List Nat} {x2 : List Nat} {a3 : Int} (e : nat_into_fn' x1 x2 a3 = some o) (good : GoodS (nat_into_At r) r o) : nat_into_At r (.fn x1 x2 a3) := by
  intro h a1 a2 i1 v1 n2 av2_1
  rw [u_nat_into]
  unfold nat_into_fn' at e
  cases e
  exact good ((Grow.refl _).toUpd _) v1 n2 av2_1

theorem nat_into_p2_walk {r : nat_into_Res} {o : nat_into_St ⊕ nat_into_Res} {x1 : List Nat} {x2 : List Nat} {a3 : Int} {a4 : Int} {a5 : Int} (e : nat_into_p2' x1 x2 a3 a4 a5 = some o) (good : GoodS (nat_into_At r) r o) : nat_into_At r (.p2 x1 x2 a3 a4 a5) := by
  intro h0 h a1 a2 i1 g0 v1 n2 av2_1
  rw [p_nat_into_2]
  unfold nat_into_p2' at e
  rw [v1.nats.len]
  rw [n2.len]
  refine Runs.cond (fun k6 => ?_) (fun k6 => ?_)
  · replace e := (condT k6).symm.trans e
    refine Runs.cond (fun k7 => ?_) (fun k7 => ?_)
    · replace e := (condT k7).symm.trans e
      refine Runs.cond (fun k8 => ?_) (fun k8 => ?_)
      · replace e := (condT k8).symm.trans e
        obtain ⟨y9, q9, e⟩ := Option.bind_eq_some_iff.1 e
        obtain ⟨r9, j9, l9⟩ := n2.atI q9
        refine Runs.step j9 ?_
        refine Runs.step (rdc l9 (avInt_int _ _)) ?_
        obtain ⟨j10, q10, e⟩ := Option.bind_eq_some_iff.1 e
        refine Runs.step (v1.idx rfl q10) ?_
        refine Runs.step (v1.rd rfl q10 (avInt_int _ _)) ?_
        obtain ⟨p11, q11, e⟩ := Option.bind_eq_some_iff.1 e
        refine Runs.step (prim_add64 q11) ?_
        refine Runs.step rfl ?_
        refine Runs.step (seen (avInt_int _ _)) ?_
        refine Runs.step (seen (avInt_int _ _)) ?_
        obtain ⟨j12, q12, e⟩ := Option.bind_eq_some_iff.1 e
        refine Runs.step (v1.idx rfl q12) ?_
        obtain ⟨w13, z13, e⟩ := Option.bind_eq_some_iff.1 e
        refine Runs.vput v1 rfl q12 z13 fun H13 v13 u13 => ?_
        have n2_13 := n2.upda av2_1 u13
        cases e
        exact good (g0.trans u13) v13 n2_13 av2_1
      · replace e := (condF k8).symm.trans e
        obtain ⟨j9, q9, e⟩ := Option.bind_eq_some_iff.1 e
        refine Runs.step (v1.idx rfl q9) ?_
        refine Runs.step (v1.rd rfl q9 (avInt_int _ _)) ?_
        obtain ⟨p10, q10, e⟩ := Option.bind_eq_some_iff.1 e
        refine Runs.step (prim_add64 q10) ?_
        refine Runs.step rfl ?_
        refine Runs.step (seen (avInt_int _ _)) ?_
        refine Runs.step (seen (avInt_int _ _)) ?_
        obtain ⟨j11, q11, e⟩ := Option.bind_eq_some_iff.1 e
        refine Runs.step (v1.idx rfl q11) ?_
        obtain ⟨w12, z12, e⟩ := Option.bind_eq_some_iff.1 e
        refine Runs.vput v1 rfl q11 z12 fun H12 v12 u12 => ?_
        have n2_12 := n2.upda av2_1 u12
        cases e
        exact good (g0.trans u12) v12 n2_12 av2_1
    · replace e := (condF k7).symm.trans e
      refine Runs.cond (fun k8 => ?_) (fun k8 => ?_)
      · replace e := (condT k8).symm.trans e
        refine Runs.cond (fun k9 => ?_) (fun k9 => ?_)
        · replace e := (condT k9).symm.trans e
          obtain ⟨y10, q10, e⟩ := Option.bind_eq_some_iff.1 e
          obtain ⟨r10, j10, l10⟩ := n2.atI q10
          refine Runs.step j10 ?_
          refine Runs.step (rdc l10 (avInt_int _ _)) ?_
          obtain ⟨j11, q11, e⟩ := Option.bind_eq_some_iff.1 e
          refine Runs.step (v1.idx rfl q11) ?_
          refine Runs.step (v1.rd rfl q11 (avInt_int _ _)) ?_
          obtain ⟨p12, q12, e⟩ := Option.bind_eq_some_iff.1 e
          refine Runs.step (prim_add64 q12) ?_
          refine Runs.step rfl ?_
          refine Runs.step (seen (avInt_int _ _)) ?_
          refine Runs.step (seen (avInt_int _ _)) ?_
          obtain ⟨j13, q13, e⟩ := Option.bind_eq_some_iff.1 e
          refine Runs.step (v1.idx rfl q13) ?_
          obtain ⟨w14, z14, e⟩ := Option.bind_eq_some_iff.1 e
          refine Runs.vput v1 rfl q13 z14 fun H14 v14 u14 => ?_
          have n2_14 := n2.upda av2_1 u14
          cases e
          exact good (g0.trans u14) v14 n2_14 av2_1
        · replace e := (condF k9).symm.trans e
          obtain ⟨j10, q10, e⟩ := Option.bind_eq_some_iff.1 e
          refine Runs.step (v1.idx rfl q10) ?_
          refine Runs.step (v1.rd rfl q10 (avInt_int _ _)) ?_
          obtain ⟨p11, q11, e⟩ := Option.bind_eq_some_iff.1 e
          refine Runs.step (prim_add64 q11) ?_
          refine Runs.step rfl ?_
          refine Runs.step (seen (avInt_int _ _)) ?_
          refine Runs.step (seen (avInt_int _ _)) ?_
          obtain ⟨j12, q12, e⟩ := Option.bind_eq_some_iff.1 e
          refine Runs.step (v1.idx rfl q12) ?_
          obtain ⟨w13, z13, e⟩ := Option.bind_eq_some_iff.1 e
          refine Runs.vput v1 rfl q12 z13 fun H13 v13 u13 => ?_
          have n2_13 := n2.upda av2_1 u13
          cases e
          exact good (g0.trans u13) v13 n2_13 av2_1
      · replace e := (condF k8).symm.trans e
        cases e
        cases good
        exact Runs.ret ⟨rfl, v1, g0⟩
  · replace e := (condF k6).symm.trans e
    cases e
    cases good
    exact Runs.ret ⟨rfl, v1, g0⟩

theorem nat_into_run {s : nat_into_St} {r : nat_into_Res} (it : Iter nat_into_step s r) : nat_into_At r s := Iter.ind (fun s o e good => by
  cases s with
  | fn x1 x2 a3 => exact @nat_into_fn_walk _ _ x1 x2 a3 e good
  | p2 x1 x2 a3 a4 a5 => exact @nat_into_p2_walk _ _ x1 x2 a3 a4 a5 e good
  ) it

end Go.Ab

/- Layer 1: what 'into' answers. -/
set_option linter.unusedVariables false
set_option linter.unusedSimpArgs false
set_option maxRecDepth 10000
namespace Go.Ab
open Go.Proofs Go.Num

theorem getD_of {xs : List Nat} {i : Nat} (h : i < xs.length) : List.getD xs i 0 = xs[i] := getD_lt h

theorem into_step {o xs : List Nat} {at' i c : Nat} (ho : o.length ≤ 4611686018427387904) (hx : xs.length ≤ 4611686018427387904) (h1 : i < o.length) (h2 : at' ≤ i) (hc : c ≤ 1) (hs : i - at' < xs.length ∨ 0 < c) :
    nat_into_step (.p2 o xs (at' : Int) (c : Int) (i : Int)) = some (.inl (.p2 (o.set i ((xs.getD (i - at') 0 + o[i] + c) % 18446744073709551616)) xs (at' : Int) (((xs.getD (i - at') 0 + o[i] + c) / 18446744073709551616 : Nat) : Int) ((i + 1 : Nat) : Int))) := by
  show nat_into_p2' _ _ _ _ _ = _
  unfold nat_into_p2'
  have e0 : IntKind.wrap .i64 ((i : Int) - (at' : Int)) = ((i - at' : Nat) : Int) := by rw [wrap64 (by omega) (by omega)]; omega
  have hm : ∀ n : Nat, n % 18446744073709551616 < 18446744073709551616 := fun n => Nat.mod_lt n (by omega)
  rw [condT (by rw [decide_eq_true_eq]; omega), e0]
  by_cases hk : i - at' < xs.length
  · have a1 := add64P_nat o[i] xs[i - at'] hc
    rw [condT (by rw [decide_eq_true_eq]; omega), condT (by rw [decide_eq_true_eq]; omega), atI_nat hk, Option.bind_some, inI_nat h1, Option.bind_some, getD_of h1, a1, Option.bind_some, Option.bind_some]
    dsimp only
    rw [u64P_nat (hm _), Option.bind_some, wrap_succ (by omega), getD_of hk, Nat.add_comm o[i]]
  · have hc' : 0 < c := by omega
    have a1 := add64P_nat o[i] 0 hc
    rw [show ((0 : Nat) : Int) = 0 from rfl] at a1
    rw [condF (by rw [decide_eq_false_iff_not]; omega), condT (by rw [decide_eq_true_eq]; omega), condF (by rw [decide_eq_false_iff_not]; omega), inI_nat h1, Option.bind_some, getD_of h1, a1, Option.bind_some, Option.bind_some]
    dsimp only
    rw [u64P_nat (hm _), Option.bind_some, wrap_succ (by omega), show xs.getD (i - at') 0 = 0 from by simp [List.getD, List.getElem?_eq_none (Nat.le_of_not_lt hk)]]
    rw [Nat.add_comm o[i]]

theorem into_loop {xs : List Nat} {at' T : Nat} (lx : ∀ x ∈ xs, x < B) (hx : xs.length ≤ 4611686018427387904) :
    ∀ (d i : Nat) (o : List Nat) (c : Nat), i + d = o.length → at' ≤ i → o.length ≤ 4611686018427387904 → (∀ y ∈ o, y < B) → c ≤ 1 → num B o + c * B ^ i = T + B ^ at' * num B (xs.take (i - at')) → T + B ^ at' * num B xs < B ^ o.length →
      ∃ r, Iter nat_into_step (.p2 o xs (at' : Int) (c : Int) (i : Int)) r ∧ r.length = o.length ∧ (∀ y ∈ r, y < B) ∧ num B r = T + B ^ at' * num B xs
  | 0, i, o, c, hi, hat, ho, to, hc, inv, bound => by
    have hi : i = o.length := by omega
    subst hi
    have hxs : num B xs = num B (xs.take (o.length - at')) + B ^ (xs.take (o.length - at')).length * num B (xs.drop (o.length - at')) := by
      rw [← num_append, List.take_append_drop]
    have hc0 : c = 0 := by
      rcases Nat.eq_zero_or_pos c with e | e
      · exact e
      · have : c = 1 := by omega
        subst this
        have : B ^ at' * num B (xs.take (o.length - at')) ≤ B ^ at' * num B xs := Nat.mul_le_mul_left _ (by omega)
        omega
    subst hc0
    have hd : num B (xs.take (o.length - at')) = num B xs := by
      by_cases hl : xs.length ≤ o.length - at'
      · rw [List.take_of_length_le hl]
      · rw [List.length_take, Nat.min_eq_left (by omega)] at hxs
        rw [hxs]
        rcases Nat.eq_zero_or_pos (num B (xs.drop (o.length - at'))) with e | e
        · rw [e]; omega
        · exfalso
          have h1 : B ^ (o.length - at') ≤ num B xs := by
            have : B ^ (o.length - at') * 1 ≤ B ^ (o.length - at') * num B (xs.drop (o.length - at')) := Nat.mul_le_mul_left _ e
            omega
          have h2 : B ^ at' * B ^ (o.length - at') ≤ B ^ at' * num B xs := Nat.mul_le_mul_left _ h1
          rw [← Nat.pow_add, show at' + (o.length - at') = o.length from by omega] at h2
          omega
    refine ⟨o, .done ?_, rfl, to, ?_⟩
    · show nat_into_p2' _ _ _ _ _ = _
      unfold nat_into_p2'
      rw [condF (by rw [decide_eq_false_iff_not]; omega)]
    · rw [← hd]
      omega
  | d + 1, i, o, c, hi, hat, ho, to, hc, inv, bound => by
    have h1 : i < o.length := by omega
    by_cases hs : i - at' < xs.length ∨ 0 < c
    · have hm := Nat.mod_lt (xs.getD (i - at') 0 + o[i] + c) (show 0 < 18446744073709551616 by omega)
      have hy : xs.getD (i - at') 0 < 18446744073709551616 := by
        by_cases hk : i - at' < xs.length
        · rw [getD_of hk]; exact lx _ (List.getElem_mem _)
        · rw [show xs.getD (i - at') 0 = 0 from by simp [List.getD, List.getElem?_eq_none (Nat.le_of_not_lt hk)]]
          omega
      have hoi : o[i] < 18446744073709551616 := to _ (List.getElem_mem _)
      obtain ⟨r, it, r1, r2, r3⟩ := into_loop (T := T) (at' := at') lx hx d (i + 1) (o.set i ((xs.getD (i - at') 0 + o[i] + c) % 18446744073709551616)) ((xs.getD (i - at') 0 + o[i] + c) / 18446744073709551616) (by simp; omega) (by omega) (by simpa using ho) (set_lt to hm) (by omega) (by
        have k1 := num_set (b := B) h1 ((xs.getD (i - at') 0 + o[i] + c) % 18446744073709551616)
        have k2 := row_alg k1 (Nat.div_add_mod' (xs.getD (i - at') 0 + o[i] + c) 18446744073709551616).symm inv
        rw [Nat.pow_succ, k2, show i + 1 - at' = i - at' + 1 from by omega, num_take_getD, Nat.mul_add, ← Nat.mul_assoc, ← Nat.pow_add, show at' + (i - at') = i from by omega]
        omega) (by simpa using bound)
      exact ⟨r, .next (into_step ho hx h1 hat hc hs) it, by simpa using r1, r2, r3⟩
    · have hc0 : c = 0 := by omega
      subst hc0
      rw [List.take_of_length_le (by omega)] at inv
      refine ⟨o, .done ?_, rfl, to, by omega⟩
      show nat_into_p2' _ _ _ _ _ = _
      unfold nat_into_p2'
      have e0 : IntKind.wrap .i64 ((i : Int) - (at' : Int)) = ((i - at' : Nat) : Int) := by rw [wrap64 (by omega) (by omega)]; omega
      rw [condT (by rw [decide_eq_true_eq]; omega), e0, condF (by rw [decide_eq_false_iff_not]; omega), condF (by rw [decide_eq_false_iff_not]; omega)]

theorem nat_into_spec {h : AH} {s t : Sl} {i : Nat} {o xs : List Nat} (v : Vec h s i o) (m : Nats h t xs) (av : Av t i xs) {at' : Nat} (hat : at' ≤ o.length) (ho : o.length ≤ 4611686018427387904) (hx : xs.length ≤ 4611686018427387904) (bound : num B o + B ^ at' * num B xs < B ^ o.length) :
    ∃ (h' : AH) (r : List Nat), go (.fn F.nat_into [s.v, t.v, .int .i64 (at' : Int)]) h = some (.tup [], h') ∧ Vec h' s i r ∧ Upd h h' i ∧ r.length = o.length ∧ num B r = num B o + B ^ at' * num B xs := by
  obtain ⟨r, it, r1, r2, r3⟩ := into_loop (T := num B o) (at' := at') m.lt hx (o.length - at') at' o 0 (by omega) (Nat.le_refl _) ho v.lt (by omega) (by simp [num]) bound
  obtain ⟨_, h', e, rfl, v', u⟩ := nat_into_run (.next (s := .fn o xs (at' : Int)) rfl it) v m av
  exact ⟨h', r, e, v', u, r1, r3⟩

end Go.Ab

/- Layer 1: what the long product is made of. -/
set_option linter.unusedVariables false
set_option linter.unusedSimpArgs false
set_option maxRecDepth 10000
namespace Go.Ab
open Go.Proofs Go.Num

@[reducible] def halvesV (p : Ref) : AV := .func (.func F.nat_product_1) [] [.ptr (some p)]

theorem callV_halves (p : Ref) (x y : AV) (h : AH) : callV Pg go (halvesV p) [x, y] h = go (.fn F.nat_product_1 [x, y, .ptr (some p)]) h := by kernel_rfl

theorem Grow.same_cell {h h' : AH} (g : Grow h h') {p : Ref} {v : AV} (c : h.cell p = some v) : SameAt h h' p 1 := ⟨fun j hj => by
  have : j = 0 := by omega
  subst this
  rw [Ref.add_zero, c, g.cell_some c], fun h => by cases h⟩

theorem copy_vec {h : AH} {s d : Sl} {i : Nat} {xs ys : List Nat} (n : Nats h s xs) (v : Vec h d i ys) (hl : xs.length ≤ ys.length) : ∃ h', copyH s d 1 h = some h' ∧ Vec h' d i (xs ++ ys.drop xs.length) ∧ Upd h h' i := by
  have hd : d.ref = some (.new i 0) := by rw [v.is]
  have hdl : d.len = ys.length := v.len
  have hg := n.cells.gets
  unfold copyH
  rw [hd]
  cases hs : s.ref with
  | none =>
    have : xs = [] := by
      cases xs with
      | nil => rfl
      | cons x xs =>
        obtain ⟨r, e, _⟩ := n.cells.get 0 _ rfl
        rw [hs] at e
        cases e
    subst this
    exact ⟨h, rfl, by simpa using v, (Grow.refl h).toUpd i⟩
  | some r =>
    rw [hs, n.len] at hg
    simp only [AH.getsO] at hg
    dsimp only
    rw [n.len, hdl, Nat.min_eq_left hl, hg, Option.bind_some]
    obtain ⟨e, b⟩ := v.has
    rw [b.puts (by simp; omega)]
    have e1 : (ys.map u64).take 0 ++ xs.map u64 ++ (ys.map u64).drop (0 + (xs.map u64).length) = (xs ++ ys.drop xs.length).map u64 := by
      simp [List.map_drop]
    rw [e1]
    refine ⟨_, rfl, ⟨?_, ⟨e, AH.has_upd b _ _⟩, ?_, ?_⟩, AH.upd_Upd h i _ e⟩
    · have : (xs ++ ys.drop xs.length).length = ys.length := by simp; omega
      rw [this]
      exact v.is
    · intro z hz
      rcases List.mem_append.1 hz with h1 | h1
      · exact n.lt z h1
      · exact v.lt z (List.mem_of_mem_drop h1)
    · have := v.short
      simp
      omega

theorem product_low {h : AH} {s : Sl} {xs : List Nat} {p : Ref} {k : Nat} (n : Nats h s xs) (c : h.cell p = some (.int .i64 (k : Int))) : ∃ s', go (.fn F.nat_product_1_1 [s.v, .ptr (some p)]) h = some (s'.v, h) ∧ Nats h s' (digs B (num B (xs.take (min k xs.length)))) := by
  rw [u_nat_product_1_1, c, Option.bind_some, avInt_int, Option.bind_some, imin_eq, n.len]
  obtain ⟨s1, e1, n1, _⟩ := n.cut (l := 0) (n := min k xs.length) (by omega) (by omega)
  rw [show min (k : Int) (xs.length : Int) = ((min k xs.length : Nat) : Int) from by omega, show (0 : Int) = ((0 : Nat) : Int) from rfl, e1, Option.bind_some]
  obtain ⟨s2, e2, n2, _⟩ := nat_trim_spec n1
  rw [e2, Option.bind_some, Option.bind_some, asSl_v, Option.bind_some]
  exact ⟨s2, rfl, by simpa using n2⟩

theorem product_high {h : AH} {s : Sl} {xs : List Nat} {p : Ref} {k : Nat} (n : Nats h s xs) (c : h.cell p = some (.int .i64 (k : Int))) : ∃ s', go (.fn F.nat_product_1_2 [s.v, .ptr (some p)]) h = some (s'.v, h) ∧ Nats h s' (xs.drop (min k xs.length)) := by
  rw [u_nat_product_1_2, c, Option.bind_some, avInt_int, Option.bind_some, imin_eq, n.len]
  obtain ⟨s1, e1, n1, _⟩ := n.cut (l := min k xs.length) (n := xs.length) (by omega) (by omega)
  rw [show min (k : Int) (xs.length : Int) = ((min k xs.length : Nat) : Int) from by omega, e1, Option.bind_some]
  refine ⟨s1, rfl, ?_⟩
  rwa [List.take_of_length_le (by simp)] at n1

end Go.Ab

/- Layer 1: the long product. -/
set_option linter.unusedVariables false
set_option linter.unusedSimpArgs false
set_option maxRecDepth 10000
namespace Go.Ab
open Go.Proofs Go.Num

theorem B1 : 1 ≤ B := by decide

theorem split_num (b : Nat) (xs : List Nat) (n : Nat) : num b xs = num b (xs.take (min n xs.length)) + b ^ n * num b (xs.drop (min n xs.length)) := by
  have e : num b xs = num b (xs.take (min n xs.length) ++ xs.drop (min n xs.length)) := by rw [List.take_append_drop]
  rw [num_append, List.length_take] at e
  by_cases h : n ≤ xs.length
  · rw [e, show min (min n xs.length) xs.length = n from by omega]
  · have : xs.drop (min n xs.length) = [] := List.drop_of_length_le (by omega)
    rw [this] at e ⊢
    simpa [num] using e

theorem digs_mono {a c : Nat} (h : a ≤ c) : (digs B a).length ≤ (digs B c).length := by
  rw [digs_len B2]
  exact Nat.lt_of_le_of_lt h ((digs_len B2 c _).1 (Nat.le_refl _))

theorem digs_of_len {xs : List Nat} (h : ∀ x ∈ xs, x < B) : (digs B (num B xs)).length ≤ xs.length := by
  rw [digs_len B2]
  exact num_lt B1 h

theorem karatsuba (P al ah bl bh : Nat) : (al + P * ah) * (bl + P * bh) = al * bl + P * ((al + ah) * (bl + bh) - al * bl - ah * bh) + P * P * (ah * bh) := by
  have e : (al + ah) * (bl + bh) - al * bl - ah * bh = al * bh + ah * bl := by
    rw [Nat.add_mul, Nat.mul_add, Nat.mul_add]
    omega
  rw [e, Nat.add_mul, Nat.mul_add, Nat.mul_add, Nat.mul_add]
  have e1 : al * (P * bh) = P * (al * bh) := Nat.mul_left_comm _ _ _
  have e2 : P * ah * bl = P * (ah * bl) := Nat.mul_assoc _ _ _
  have e3 : P * ah * (P * bh) = P * P * (ah * bh) := Nat.mul_mul_mul_comm _ _ _ _
  rw [e1, e2, e3]
  omega

set_option maxHeartbeats 2000000 in
theorem product_1_spec : ∀ (N : Nat) {h : AH} {s t : Sl} {xs ys : List Nat} {p : Ref}, xs.length + ys.length < N → N ≤ 268435456 → Nats h s xs → Nats h t ys → h.cell p = some (halvesV p) →
    Runs (go (.fn F.nat_product_1 [s.v, t.v, .ptr (some p)]) h) fun v h' => ∃ s' : Sl, v = s'.v ∧ Nats h' s' (digs B (num B xs * num B ys)) ∧ Grow h h' ∧ Own h s'
  | 0, _, _, _, _, _, _, hN, _, _, _, _ => by omega
  | N + 1, h, s, t, xs, ys, p, hN, hM, ns, nt, c => by
    rw [u_nat_product_1, ns.len, nt.len]
    refine Runs.cond (fun k1 => ?_) (fun k1 => ?_)
    · obtain ⟨s4, h4, e4, n4, g4, o4⟩ := nat_school_spec ns nt (by omega)
      refine Runs.step e4 ?_
      refine Runs.step (seen (asSl_v _)) ?_
      exact Runs.ret ⟨s4, rfl, n4, g4, o4⟩
    refine Runs.cond (fun k2 => ?_) (fun k2 => ?_)
    · obtain ⟨s4, h4, e4, n4, g4, o4⟩ := nat_school_spec ns nt (by omega)
      refine Runs.step e4 ?_
      refine Runs.step (seen (asSl_v _)) ?_
      exact Runs.ret ⟨s4, rfl, n4, g4, o4⟩
    rw [decide_eq_false_iff_not] at k1 k2
    obtain ⟨n, hn⟩ : ∃ n, n = (max xs.length ys.length + 1) / 2 := ⟨_, rfl⟩
    have hw : IntKind.wrap .i64 (Int.tdiv (IntKind.wrap .i64 ((imax (xs.length : Int) (ys.length : Int)) + 1)) 2) = (n : Int) := by
      rw [imax_eq, show max (xs.length : Int) (ys.length : Int) = ((max xs.length ys.length : Nat) : Int) from by omega, wrap_succ (by omega)]
      show IntKind.wrap .i64 (((max xs.length ys.length + 1) / 2 : Nat) : Int) = _
      rw [← hn, wrap_nat (by omega)]
    rw [hw]
    -- the two halves of each
    have lax : (xs.take (min n xs.length)).length = min n xs.length := by simp
    have lbx : (ys.take (min n ys.length)).length = min n ys.length := by simp
    have tax : ∀ x ∈ xs.take (min n xs.length), x < B := fun x hx => ns.lt x (List.mem_of_mem_take hx)
    have tbx : ∀ x ∈ ys.take (min n ys.length), x < B := fun x hx => nt.lt x (List.mem_of_mem_take hx)
    have tah : ∀ x ∈ xs.drop (min n xs.length), x < B := fun x hx => ns.lt x (List.mem_of_mem_drop hx)
    have tbh : ∀ x ∈ ys.drop (min n ys.length), x < B := fun x hx => nt.lt x (List.mem_of_mem_drop hx)
    have lah : (xs.drop (min n xs.length)).length = xs.length - min n xs.length := by simp
    have lbh : (ys.drop (min n ys.length)).length = ys.length - min n ys.length := by simp
    have da := digs_of_len tax
    have db := digs_of_len tbx
    have dah := digs_of_len tah
    have dbh := digs_of_len tbh
    have ea := split_num B xs n
    have eb := split_num B ys n
    generalize hal : num B (xs.take (min n xs.length)) = al at *
    generalize hah : num B (xs.drop (min n xs.length)) = ah at *
    generalize hbl : num B (ys.take (min n ys.length)) = bl at *
    generalize hbh : num B (ys.drop (min n ys.length)) = bh at *
    -- the box of n
    refine Runs.new fun H8 b8 g8 => ?_
    refine Runs.puts b8 rfl fun H9 b9 u9 => ?_
    have gA := g8.updr (Nat.le_refl _) u9
    have c9 := gA.cell_some c
    have k9 : H9.cell (.new h.blks.size 0) = some (.int .i64 (n : Int)) := b9.cell 0
    have ns9 := ns.grow gA
    have nt9 := nt.grow gA
    refine Runs.step c9 ?_
    refine Runs.step c9 ?_
    obtain ⟨s12, e12, n12⟩ := product_low ns9 k9
    obtain ⟨s14, e14, n14⟩ := product_low nt9 k9
    rw [hal] at n12
    rw [hbl] at n14
    refine Runs.step e12 ?_
    refine Runs.step (seen (asSl_v _)) ?_
    refine Runs.when ((Grow.refl _).same_cell c9) ?_
    refine Runs.when ((Grow.refl _).same_cell c9) ?_
    refine Runs.step e14 ?_
    refine Runs.step (seen (asSl_v _)) ?_
    refine Runs.when ((Grow.refl _).same_cell c9) ?_
    refine Runs.when ((Grow.refl _).same_cell c9) ?_
    obtain ⟨_, H16, e16, s16, rfl, n16, g16, o16⟩ := product_1_spec N (by omega) (by omega) n12 n14 c9
    rw [num_digs B2, num_digs B2] at n16
    refine Runs.step ((callV_halves p _ _ _).trans e16) ?_
    refine Runs.step (seen (asSl_v _)) ?_
    refine Runs.when (g16.same_cell c9) ?_
    have c16 := g16.cell_some c9
    have k16 := g16.cell_some k9
    obtain ⟨s18, e18, n18⟩ := product_high (ns9.grow g16) k16
    obtain ⟨s20, e20, n20⟩ := product_high (nt9.grow g16) k16
    refine Runs.step e18 ?_
    refine Runs.step (seen (asSl_v _)) ?_
    refine Runs.when ((Grow.refl _).same_cell c16) ?_
    refine Runs.step e20 ?_
    refine Runs.step (seen (asSl_v _)) ?_
    refine Runs.when ((Grow.refl _).same_cell c16) ?_
    obtain ⟨_, H22, e22, s22, rfl, n22, g22, o22⟩ := product_1_spec N (by omega) (by omega) n18 n20 c16
    rw [hah, hbh] at n22
    refine Runs.step ((callV_halves p _ _ _).trans e22) ?_
    refine Runs.step (seen (asSl_v _)) ?_
    have c22 := g22.cell_some c16
    have k22 := g22.cell_some k16
    have gB := g16.trans g22
    refine Runs.step c22 ?_
    -- the sums
    obtain ⟨s25, e25, n25⟩ := product_low (ns9.grow gB) k22
    obtain ⟨s27, e27, n27⟩ := product_high (ns9.grow gB) k22
    rw [hal] at n25
    refine Runs.step e25 ?_
    refine Runs.step (seen (asSl_v _)) ?_
    refine Runs.when ((Grow.refl _).same_cell c22) ?_
    refine Runs.step e27 ?_
    refine Runs.step (seen (asSl_v _)) ?_
    refine Runs.when ((Grow.refl _).same_cell c22) ?_
    obtain ⟨s29, H29, zs, e29, n29, g29, o29, v29, l29⟩ := nat_sum_spec n25 n27 (by omega) (by omega)
    rw [num_digs B2, hah] at v29
    refine Runs.step e29 ?_
    refine Runs.step (seen (asSl_v _)) ?_
    refine Runs.when (g29.same_cell c22) ?_
    have c29 := g29.cell_some c22
    have k29 := g29.cell_some k22
    obtain ⟨s31, e31, n31, _⟩ := nat_trim_spec n29
    rw [v29] at n31
    refine Runs.step e31 ?_
    refine Runs.step (seen (asSl_v _)) ?_
    refine Runs.when ((Grow.refl _).same_cell c29) ?_
    obtain ⟨s33, e33, n33⟩ := product_low (nt9.grow (gB.trans g29)) k29
    obtain ⟨s35, e35, n35⟩ := product_high (nt9.grow (gB.trans g29)) k29
    rw [hbl] at n33
    refine Runs.step e33 ?_
    refine Runs.step (seen (asSl_v _)) ?_
    refine Runs.when ((Grow.refl _).same_cell c29) ?_
    refine Runs.step e35 ?_
    refine Runs.step (seen (asSl_v _)) ?_
    refine Runs.when ((Grow.refl _).same_cell c29) ?_
    obtain ⟨s37, H37, ws, e37, n37, g37, o37, v37, l37⟩ := nat_sum_spec n33 n35 (by omega) (by omega)
    rw [num_digs B2, hbh] at v37
    refine Runs.step e37 ?_
    refine Runs.step (seen (asSl_v _)) ?_
    refine Runs.when (g37.same_cell c29) ?_
    have c37 := g37.cell_some c29
    have k37 := g37.cell_some k29
    obtain ⟨s39, e39, n39, _⟩ := nat_trim_spec n37
    rw [v37] at n39
    refine Runs.step e39 ?_
    refine Runs.step (seen (asSl_v _)) ?_
    refine Runs.when ((Grow.refl _).same_cell c37) ?_
    have q1 := digs_add_len B2 al ah
    have q2 := digs_add_len B2 bl bh
    obtain ⟨_, H41, e41, s41, rfl, n41, g41, o41⟩ := product_1_spec N (by omega) (by omega) (n31.grow g37) n39 c37
    rw [num_digs B2, num_digs B2] at n41
    refine Runs.step ((callV_halves p _ _ _).trans e41) ?_
    refine Runs.step (seen (asSl_v _)) ?_
    -- the differences
    have mm : al * bl + ah * bh ≤ (al + ah) * (bl + bh) := by
      rw [Nat.add_mul, Nat.mul_add, Nat.mul_add]
      omega
    have gC := g22.trans (g29.trans (g37.trans g41))
    have lm : (digs B ((al + ah) * (bl + bh))).length ≤ 2 * n + 2 := by
      rw [digs_len B2]
      have h1 := (digs_len B2 (al + ah) (n + 1)).1 (by omega)
      have h2 := (digs_len B2 (bl + bh) (n + 1)).1 (by omega)
      rw [show 2 * n + 2 = (n + 1) + (n + 1) from by omega, Nat.pow_add]
      exact Nat.mul_lt_mul_of_lt_of_lt h1 h2
    obtain ⟨s43, H43, us, e43, n43, g43, o43, v43, l43⟩ := nat_less_spec n41 (n16.grow gC) (by omega) (digs_mono (by omega)) (by rw [num_digs B2, num_digs B2]; omega)
    rw [num_digs B2, num_digs B2] at v43
    refine Runs.step e43 ?_
    refine Runs.step (seen (asSl_v _)) ?_
    obtain ⟨s45, e45, n45, _⟩ := nat_trim_spec n43
    rw [v43] at n45
    refine Runs.step e45 ?_
    refine Runs.step (seen (asSl_v _)) ?_
    have gD := (g29.trans (g37.trans g41)).trans g43
    have l45 := digs_mono (a := (al + ah) * (bl + bh) - al * bl) (c := (al + ah) * (bl + bh)) (by omega)
    obtain ⟨s47, H47, rs, e47, n47, g47, o47, v47, l47⟩ := nat_less_spec n45 (n22.grow gD) (by omega) (digs_mono (by omega)) (by rw [num_digs B2, num_digs B2]; omega)
    rw [num_digs B2, num_digs B2] at v47
    refine Runs.step e47 ?_
    refine Runs.step (seen (asSl_v _)) ?_
    obtain ⟨s49, e49, n49, _⟩ := nat_trim_spec n47
    rw [v47] at n49
    refine Runs.step e49 ?_
    refine Runs.step (seen (asSl_v _)) ?_
    -- all together
    have gE : Grow H9 H47 := (g16.trans gC).trans (g43.trans g47)
    have n16' := n16.grow ((gC.trans g43).trans g47)
    have n22' := n22.grow (gD.trans g47)
    have b47 := gE.has b9
    rw [show IntKind.wrap .i64 ((IntKind.wrap .i64 ((xs.length : Int) + (ys.length : Int))) + 1) = ((xs.length + ys.length + 1 : Nat) : Int) from by
      rw [← Int.natCast_add, wrap_nat (by omega), wrap_succ (by omega)]]
    refine Runs.mk (mkI_nat (by omega)) bytes_uint64 fun s51 H51 v51 g51 => ?_
    have total := karatsuba (B ^ n) al ah bl bh
    rw [← ea, ← eb] at total
    generalize hm : (al + ah) * (bl + bh) - al * bl - ah * bh = m at *
    have lt : num B xs * num B ys < B ^ (xs.length + ys.length) := by
      rw [Nat.pow_add]
      exact Nat.mul_lt_mul_of_lt_of_lt (num_lt B1 ns.lt) (num_lt B1 nt.lt)
    have lt1 : num B xs * num B ys < B ^ (xs.length + ys.length + 1) := Nat.lt_of_lt_of_le lt (Nat.pow_le_pow_right B1 (by omega))
    have lp : (digs B (al * bl)).length ≤ xs.length + ys.length := by
      rw [digs_len B2]
      omega
    obtain ⟨H52, e52, v52, u52⟩ := copy_vec (n16'.grow g51) v51 (by simp; omega)
    refine Runs.step e52 ?_
    have i47 := b47.lt
    have ne : h.blks.size ≠ H47.blks.size := Nat.ne_of_lt i47
    have b52 := AH.has.updr (g51.has b47) ne u52
    refine Runs.step (AH.has.rd0 b52 rfl (avInt_int _ _)) ?_
    have av49 := Av.of_base n49 (Nat.le_refl _)
    have av22 := Av.of_base n22' (Nat.le_refl _)
    have w0 : num B (digs B (al * bl) ++ (List.replicate (xs.length + ys.length + 1) 0).drop (digs B (al * bl)).length) = al * bl := by
      rw [List.drop_replicate, num_noughts, num_digs B2]
    have lw0 : (digs B (al * bl) ++ (List.replicate (xs.length + ys.length + 1) 0).drop (digs B (al * bl)).length).length = xs.length + ys.length + 1 := by
      simp
      omega
    generalize digs B (al * bl) ++ (List.replicate (xs.length + ys.length + 1) 0).drop (digs B (al * bl)).length = o0 at *
    have lmm := digs_mono (a := m) (c := (al + ah) * (bl + bh)) (by omega)
    obtain ⟨H54, o1, e54, v54, u54, l54, w54⟩ := nat_into_spec v52 ((n49.grow g51).upda av49 u52) av49 (at' := n) (by omega) (by omega) (by omega) (by rw [w0, num_digs B2, lw0]; omega)
    refine Runs.step e54 ?_
    refine Runs.step rfl ?_
    have b54 := AH.has.updr b52 ne u54
    refine Runs.step (AH.has.rd0 b54 rfl (avInt_int _ _)) ?_
    rw [show IntKind.wrap .i64 (2 * (n : Int)) = ((2 * n : Nat) : Int) from by rw [wrap64 (by omega) (by omega)]; omega]
    have pp : B ^ (2 * n) = B ^ n * B ^ n := by rw [← Nat.pow_add]; congr 1; omega
    have lq : (digs B (ah * bh)).length ≤ xs.length + ys.length := by
      rw [digs_len B2]
      have : 1 * (ah * bh) ≤ B ^ n * B ^ n * (ah * bh) := Nat.mul_le_mul_right _ (Nat.mul_pos (Nat.pow_pos B1) (Nat.pow_pos B1))
      omega
    rw [w0, num_digs B2] at w54
    obtain ⟨H56, o2, e56, v56, u56, l56, w56⟩ := nat_into_spec v54 (((n22'.grow g51).upda av22 u52).upda av22 u54) av22 (at' := 2 * n) (by omega) (by omega) (by omega) (by rw [w54, num_digs B2, l54, lw0, pp]; omega)
    rw [num_digs B2, w54, pp, ← total] at w56
    refine Runs.step e56 ?_
    refine Runs.step rfl ?_
    obtain ⟨s57, e57, n57, o57⟩ := nat_trim_spec v56.nats
    rw [w56] at n57
    refine Runs.step e57 ?_
    refine Runs.step (seen (asSl_v _)) ?_
    have gF : Grow h H47 := gA.trans gE
    refine Runs.ret ⟨s57, rfl, n57, (((gF.trans g51).updr gF.size u52).updr gF.size u54).updr gF.size u56, o57 _ (v56.own gF.size)⟩

end Go.Ab

/- Layer 1: Mul. -/
set_option linter.unusedVariables false
set_option linter.unusedSimpArgs false
set_option maxRecDepth 10000
namespace Go.Ab
open Go.Proofs Go.Num

theorem nat_product_spec {h : AH} {s t : Sl} {xs ys : List Nat} (n : Nats h s xs) (m : Nats h t ys) (hl : xs.length + ys.length < 268435456) : ∃ (s' : Sl) (h' : AH), go (.fn F.nat_product [s.v, t.v]) h = some (s'.v, h') ∧ Nats h' s' (digs B (num B xs * num B ys)) ∧ Grow h h' ∧ Own h s' := by
  have key : Runs (go (.fn F.nat_product [s.v, t.v]) h) fun v h' => ∃ s' : Sl, v = s'.v ∧ Nats h' s' (digs B (num B xs * num B ys)) ∧ Grow h h' ∧ Own h s' := by
    rw [u_nat_product]
    refine Runs.new fun H3 b3 g3 => ?_
    refine Runs.puts b3 rfl fun H4 b4 u4 => ?_
    have gA := g3.updr (Nat.le_refl _) u4
    have c4 : H4.cell (.new h.blks.size 0) = some (halvesV (.new h.blks.size 0)) := b4.cell 0
    refine Runs.step c4 ?_
    obtain ⟨_, H6, e6, s6, rfl, n6, g6, o6⟩ := product_1_spec 268435456 hl (Nat.le_refl _) (n.grow gA) (m.grow gA) c4
    refine Runs.step ((callV_halves _ _ _ _).trans e6) ?_
    refine Runs.step (seen (asSl_v _)) ?_
    exact Runs.ret ⟨s6, rfl, n6, gA.trans g6, o6.of_le gA⟩
  obtain ⟨_, h', e, s', rfl, k⟩ := key
  exact ⟨s', h', e, k⟩

/-- The product of two numbers' limbs. -/
def mulN (xs ys : List Nat) : List Nat × Int := if rt xs = true ∧ rt ys = true then told (num B xs * num B ys) else ([], 1)

theorem nat_Mul_spec {h : AH} {s t : Sl} {xs ys : List Nat} (n : Nats h s xs) (m : Nats h t ys) : ∃ (s' : Sl) (h' : AH), go (.fn F.nat_Mul [s.v, t.v]) h = some (.tup [s'.v, .int .i64 (mulN xs ys).2], h') ∧ Nats h' s' (mulN xs ys).1 ∧ Grow h h' ∧ Own h s' := by
  rw [u_nat_Mul]
  simp only [newK_eq]
  have r := Rows.two n m
  have g := Grow.push h (.cells [s.v, t.v] T.api_Nat)
  generalize h.push (.cells [s.v, t.v] T.api_Nat) = h0 at *
  rw [nat_right_spec r]
  simp only [Option.bind_some, asBool_bool, List.all_cons, List.all_nil, Bool.and_true]
  cases hx : rt xs with
  | false => exact ⟨⟨none, 0, .is 0⟩, h0, by simp [mulN, hx], by simpa [mulN, hx] using Nats.nil h0, g, Own.nil h⟩
  | true =>
    cases hy : rt ys with
    | false => exact ⟨⟨none, 0, .is 0⟩, h0, by simp [mulN, hx, hy], by simpa [mulN, hx, hy] using Nats.nil h0, g, Own.nil h⟩
    | true =>
      simp only [Bool.and_self, Bool.not_true, cond_false]
      have lx := (rt_iff.1 hx).1
      have ly := (rt_iff.1 hy).1
      rw [show mulN xs ys = told (num B xs * num B ys) from by simp [mulN, hx, hy]]
      obtain ⟨s1, h1, e1, n1, g1, o1⟩ := nat_product_spec (n.grow g) (m.grow g) (by omega)
      obtain ⟨s2, e2, n2, o2⟩ := nat_told_spec n1
      rw [num_digs B2] at e2 n2
      refine ⟨s2, h1, ?_, n2, g.trans g1, o2 _ (o1.of_le g)⟩
      simp only [e1, e2, Option.bind_some, asSl_v, asTup2_tup, avInt_int]

theorem ref01_Mul_spec {h : AH} {s t : Sl} {xs ys : List Nat} (n : Nats h s xs) (m : Nats h t ys) : ∃ (s' : Sl) (h' : AH), go (.fn F.ref01_Mul [s.v, t.v]) h = some (.tup [s'.v, .int .i64 (mulN xs ys).2], h') ∧ Nats h' s' (mulN xs ys).1 ∧ Grow h h' ∧ Own h s' := by
  rw [u_ref01_Mul, ref01_Right_spec n, Option.bind_some, Option.bind_some, asBool_bool, Option.bind_some, ref01_Right_spec m, Option.bind_some, Option.bind_some, asBool_bool, Option.bind_some]
  cases hx : rt xs with
  | false => exact ⟨⟨none, 0, .is 0⟩, h, by simp [mulN, hx], by simpa [mulN, hx] using Nats.nil h, Grow.refl h, Own.nil h⟩
  | true =>
    cases hy : rt ys with
    | false => exact ⟨⟨none, 0, .is 0⟩, h, by simp [mulN, hx, hy], by simpa [mulN, hx, hy] using Nats.nil h, Grow.refl h, Own.nil h⟩
    | true =>
      simp only [Bool.not_true, cond_false]
      have lx := (rt_iff.1 hx).1
      have ly := (rt_iff.1 hy).1
      rw [show mulN xs ys = told (num B xs * num B ys) from by simp [mulN, hx, hy]]
      obtain ⟨d1, h1, e1, n1, g1, o1⟩ := ref01_In_spec n (by omega)
      obtain ⟨d2, h2, e2, n2, g2, o2⟩ := ref01_In_spec (m.grow g1) (by omega)
      have k1 := digsD_len n.lt lx
      have k2 := digsD_len m.lt ly
      obtain ⟨d3, h3, e3, n3, g3, o3⟩ := ref01_mul_spec (n1.grow g2) n2 (digs_lt D2 _) (digs_lt D2 _) (by omega)
      rw [num_digs D2, num_digs D2] at n3
      have k3 : (digs D (num B xs * num B ys)).length ≤ 536870912 := by
        have h1 := (digs_len D2 (num B xs) _).1 (Nat.le_refl _)
        have h2 := (digs_len D2 (num B ys) _).1 (Nat.le_refl _)
        have : (digs D (num B xs * num B ys)).length ≤ (digs D (num B xs)).length + (digs D (num B ys)).length := by
          rw [digs_len D2, Nat.pow_add]
          exact Nat.mul_lt_mul_of_lt_of_lt h1 h2
        omega
      obtain ⟨d4, h4, e4, n4, g4, o4⟩ := ref01_told_spec n3 (digs_lt D2 _) (digs_trim D2 _) k3
      rw [num_digs D2] at e4 n4
      refine ⟨d4, h4, ?_, n4, g1.trans (g2.trans (g3.trans g4)), o4.of_le (g1.trans (g2.trans g3))⟩
      simp only [e1, e2, e3, e4, Option.bind_some, asSl_v, asTup2_tup, avInt_int]

end Go.Ab

/- Layer 3: products: printed by wip/tools/walk.py. -/
set_option linter.unusedVariables false
set_option linter.unusedSimpArgs false
set_option maxRecDepth 10000
namespace Go.Ab
open Go.Proofs Go.Num

def modint_Mul' (a1 : Bool) (x2 : List Nat) (a3 : Bool) (x4 : List Nat) : Bool × List Nat × Int :=
  cond (!((rtI a1 x2 && rtI a3 x4))) ((false, [], 1)) (((((fromI (!(a1 == a3)) ((mulN x2 x4).1)).1)), (fromI (!(a1 == a3)) ((mulN x2 x4).1)).2, ((mulN x2 x4).2)))

theorem modint_Mul_spec {h : AH} {a2 : Sl} {x2 : List Nat} {a4 : Sl} {x4 : List Nat} (n2 : Nats h a2 x2) (n4 : Nats h a4 x4) (a1 : Bool) (a3 : Bool) : Runs (go (.fn F.modint_Mul [.agg [.bool a1, a2.v], .agg [.bool a3, a4.v]]) h) fun v h' => ∃ s1 : Sl, v = .tup [.agg [.bool (modint_Mul' a1 x2 a3 x4).1, s1.v], .int .i64 (modint_Mul' a1 x2 a3 x4).2.2] ∧ Nats h' s1 ((modint_Mul' a1 x2 a3 x4).2.1) ∧ Grow h h' ∧ Own h s1 := by
  rw [u_modint_Mul]
  refine Runs.new fun H5 b5 g5 => ?_
  refine Runs.new fun H6 b6 g6 => ?_
  refine Runs.new fun H7 b7 g7 => ?_
  refine Runs.step (AH.has.rd ((g6.trans g7).has b5) 0 rfl rfl) ?_
  refine Runs.step (AH.has.rd ((g6.trans g7).has b5) 1 rfl (asSl_v _)) ?_
  refine Runs.step (AH.has.rd (g7.has b6) 0 rfl rfl) ?_
  refine Runs.step (AH.has.rd (g7.has b6) 1 rfl (asSl_v _)) ?_
  refine Runs.new fun H8 b8 g8 => ?_
  obtain ⟨H9, e9, g9⟩ := modint_right2_spec b8 (n2.grow (((g5.trans g6).trans g7).trans g8)) (n4.grow (((g5.trans g6).trans g7).trans g8))
  refine Runs.step e9 ?_
  refine Runs.step (seen rfl) ?_
  refine Runs.cond (fun k10 => ?_) (fun k10 => ?_)
  · refine Runs.puts ((g8.trans g9).has b7) rfl fun H11 b11 u11 => ?_
    have b8_11 := AH.has.updr (g9.has b8) (Nat.ne_of_gt (Nat.lt_of_lt_of_le (b7).lt (Nat.le_refl _))) u11
    refine Runs.step (AH.has.rd b11 0 rfl rfl) ?_
    refine Runs.step (AH.has.rd b11 1 rfl (asSl_v _)) ?_
    have z : modint_Mul' a1 x2 a3 x4 = (false, [], 1) := by unfold modint_Mul'; exact (condT k10).trans rfl
    rw [z]
    exact Runs.ret ⟨(⟨none, 0, .is 0⟩ : Sl), rfl, (Nats.nil _), (((((g5.trans g6).trans g7).trans g8).trans g9).updr (Nat.le_trans ((g5.trans g6)).size (Nat.le_refl _)) u11), (Own.nil _)⟩
  · refine Runs.step (AH.has.rd ((((g6.trans g7).trans g8).trans g9).has b5) 1 rfl (asSl_v _)) ?_
    refine Runs.step (AH.has.rd (((g7.trans g8).trans g9).has b6) 1 rfl (asSl_v _)) ?_
    obtain ⟨s11, H11, e11, n11, g11, o11⟩ := nat_Mul_spec (n2.grow ((((g5.trans g6).trans g7).trans g8).trans g9)) (n4.grow ((((g5.trans g6).trans g7).trans g8).trans g9))
    refine Runs.step e11 ?_
    refine Runs.step rfl ?_
    refine Runs.step (seen (asSl_v _)) ?_
    refine Runs.step (seen (avInt_int _ _)) ?_
    refine Runs.step (AH.has.rd (((((g6.trans g7).trans g8).trans g9).trans g11).has b5) 0 rfl rfl) ?_
    refine Runs.step (AH.has.rd ((((g7.trans g8).trans g9).trans g11).has b6) 0 rfl rfl) ?_
    obtain ⟨s12, H12, e12, n12, g12, o12⟩ := modint_From_spec n11 (!(a1 == a3))
    refine Runs.step e12 ?_
    refine Runs.step rfl ?_
    refine Runs.ifT rfl ?_
    refine Runs.step (seenAt rfl rfl) ?_
    refine Runs.step (seenAt rfl (asSl_v _)) ?_
    refine Runs.puts ((((g8.trans g9).trans g11).trans g12).has b7) rfl fun H13 b13 u13 => ?_
    have n11_13 := (n11.grow g12).upda (Av.of_own o11 ((g8.trans g9).has b7).lt) u13
    have n12_13 := n12.upda (Av.of_own o12 (((g8.trans g9).trans g11).has b7).lt) u13
    have b8_13 := AH.has.updr (((g9.trans g11).trans g12).has b8) (Nat.ne_of_gt (Nat.lt_of_lt_of_le (b7).lt (Nat.le_refl _))) u13
    refine Runs.step (AH.has.rd b13 0 rfl rfl) ?_
    refine Runs.step (AH.has.rd b13 1 rfl (asSl_v _)) ?_
    have z : modint_Mul' a1 x2 a3 x4 = ((((fromI (!(a1 == a3)) ((mulN x2 x4).1)).1)), (fromI (!(a1 == a3)) ((mulN x2 x4).1)).2, ((mulN x2 x4).2)) := by unfold modint_Mul'; exact (condF k10).trans rfl
    rw [z]
    exact Runs.ret ⟨s12, rfl, n12_13, (((((((g5.trans g6).trans g7).trans g8).trans g9).trans g11).trans g12).updr (Nat.le_trans ((g5.trans g6)).size (Nat.le_refl _)) u13), (o12.of_le (((((g5.trans g6).trans g7).trans g8).trans g9).trans g11))⟩

def ref03_Mul' (a1 : Bool) (x2 : List Nat) (a3 : Bool) (x4 : List Nat) : Bool × List Nat × Int :=
  cond (!(rtI a1 x2)) ((false, [], 1)) (cond (!(rtI a3 x4)) ((false, [], 1)) (((((fromI (!(a1 == a3)) ((mulN x2 x4).1)).1)), (fromI (!(a1 == a3)) ((mulN x2 x4).1)).2, ((mulN x2 x4).2))))

theorem ref03_Mul_spec {h : AH} {a2 : Sl} {x2 : List Nat} {a4 : Sl} {x4 : List Nat} (n2 : Nats h a2 x2) (n4 : Nats h a4 x4) (a1 : Bool) (a3 : Bool) : Runs (go (.fn F.ref03_Mul [.agg [.bool a1, a2.v], .agg [.bool a3, a4.v]]) h) fun v h' => ∃ s1 : Sl, v = .tup [.agg [.bool (ref03_Mul' a1 x2 a3 x4).1, s1.v], .int .i64 (ref03_Mul' a1 x2 a3 x4).2.2] ∧ Nats h' s1 ((ref03_Mul' a1 x2 a3 x4).2.1) ∧ Grow h h' ∧ Own h s1 := by
  rw [u_ref03_Mul]
  refine Runs.new fun H5 b5 g5 => ?_
  refine Runs.new fun H6 b6 g6 => ?_
  refine Runs.new fun H7 b7 g7 => ?_
  refine Runs.step (AH.has.rd ((g6.trans g7).has b5) 0 rfl rfl) ?_
  refine Runs.step (AH.has.rd ((g6.trans g7).has b5) 1 rfl (asSl_v _)) ?_
  obtain ⟨H8, e8, g8⟩ := ref03_Right_spec (n2.grow ((g5.trans g6).trans g7)) a1
  refine Runs.step e8 ?_
  refine Runs.step (seen rfl) ?_
  refine Runs.step (AH.has.rd ((g7.trans g8).has b6) 0 rfl rfl) ?_
  refine Runs.step (AH.has.rd ((g7.trans g8).has b6) 1 rfl (asSl_v _)) ?_
  obtain ⟨H9, e9, g9⟩ := ref03_Right_spec (n4.grow (((g5.trans g6).trans g7).trans g8)) a3
  refine Runs.step e9 ?_
  refine Runs.step (seen rfl) ?_
  refine Runs.cond (fun k10 => ?_) (fun k10 => ?_)
  · refine Runs.puts ((g8.trans g9).has b7) rfl fun H11 b11 u11 => ?_
    refine Runs.step (AH.has.rd b11 0 rfl rfl) ?_
    refine Runs.step (AH.has.rd b11 1 rfl (asSl_v _)) ?_
    have z : ref03_Mul' a1 x2 a3 x4 = (false, [], 1) := by unfold ref03_Mul'; exact (condT k10).trans rfl
    rw [z]
    exact Runs.ret ⟨(⟨none, 0, .is 0⟩ : Sl), rfl, (Nats.nil _), (((((g5.trans g6).trans g7).trans g8).trans g9).updr (Nat.le_trans ((g5.trans g6)).size (Nat.le_refl _)) u11), (Own.nil _)⟩
  · refine Runs.cond (fun k11 => ?_) (fun k11 => ?_)
    · refine Runs.puts ((g8.trans g9).has b7) rfl fun H12 b12 u12 => ?_
      refine Runs.step (AH.has.rd b12 0 rfl rfl) ?_
      refine Runs.step (AH.has.rd b12 1 rfl (asSl_v _)) ?_
      have z : ref03_Mul' a1 x2 a3 x4 = (false, [], 1) := by unfold ref03_Mul'; exact (condF k10).trans ((condT k11).trans rfl)
      rw [z]
      exact Runs.ret ⟨(⟨none, 0, .is 0⟩ : Sl), rfl, (Nats.nil _), (((((g5.trans g6).trans g7).trans g8).trans g9).updr (Nat.le_trans ((g5.trans g6)).size (Nat.le_refl _)) u12), (Own.nil _)⟩
    · refine Runs.step (AH.has.rd ((((g6.trans g7).trans g8).trans g9).has b5) 1 rfl (asSl_v _)) ?_
      refine Runs.step (AH.has.rd (((g7.trans g8).trans g9).has b6) 1 rfl (asSl_v _)) ?_
      obtain ⟨s12, H12, e12, n12, g12, o12⟩ := ref01_Mul_spec (n2.grow ((((g5.trans g6).trans g7).trans g8).trans g9)) (n4.grow ((((g5.trans g6).trans g7).trans g8).trans g9))
      refine Runs.step e12 ?_
      refine Runs.step rfl ?_
      refine Runs.step (seen (asSl_v _)) ?_
      refine Runs.step (seen (avInt_int _ _)) ?_
      refine Runs.step (AH.has.rd (((((g6.trans g7).trans g8).trans g9).trans g12).has b5) 0 rfl rfl) ?_
      refine Runs.step (AH.has.rd ((((g7.trans g8).trans g9).trans g12).has b6) 0 rfl rfl) ?_
      obtain ⟨s13, H13, e13, n13, g13, o13⟩ := ref03_From_spec n12 (!(a1 == a3))
      refine Runs.step e13 ?_
      refine Runs.step rfl ?_
      refine Runs.ifT rfl ?_
      refine Runs.step (seenAt rfl rfl) ?_
      refine Runs.step (seenAt rfl (asSl_v _)) ?_
      refine Runs.puts ((((g8.trans g9).trans g12).trans g13).has b7) rfl fun H14 b14 u14 => ?_
      have n12_14 := (n12.grow g13).upda (Av.of_own o12 ((g8.trans g9).has b7).lt) u14
      have n13_14 := n13.upda (Av.of_own o13 (((g8.trans g9).trans g12).has b7).lt) u14
      refine Runs.step (AH.has.rd b14 0 rfl rfl) ?_
      refine Runs.step (AH.has.rd b14 1 rfl (asSl_v _)) ?_
      have z : ref03_Mul' a1 x2 a3 x4 = ((((fromI (!(a1 == a3)) ((mulN x2 x4).1)).1)), (fromI (!(a1 == a3)) ((mulN x2 x4).1)).2, ((mulN x2 x4).2)) := by unfold ref03_Mul'; exact (condF k10).trans ((condF k11).trans rfl)
      rw [z]
      exact Runs.ret ⟨s13, rfl, n13_14, (((((((g5.trans g6).trans g7).trans g8).trans g9).trans g12).trans g13).updr (Nat.le_trans ((g5.trans g6)).size (Nat.le_refl _)) u14), (o13.of_le (((((g5.trans g6).trans g7).trans g8).trans g9).trans g12))⟩

theorem ref03_Mul_eq : ref03_Mul' = modint_Mul' := by
  funext p xs q ys
  unfold ref03_Mul' modint_Mul'
  cases hx : rtI p xs with
  | false => rfl
  | true =>
    cases hy : rtI q ys with
    | false => rfl
    | true =>
      simp only [Bool.not_true, cond_false, Bool.and_self]

theorem ref03_Mul_is {h : AH} {a2 : Sl} {x2 : List Nat} {a4 : Sl} {x4 : List Nat} (n2 : Nats h a2 x2) (n4 : Nats h a4 x4) (a1 : Bool) (a3 : Bool) : Runs (go (.fn F.ref03_Mul [.agg [.bool a1, a2.v], .agg [.bool a3, a4.v]]) h) fun v h' => ∃ s1 : Sl, v = .tup [.agg [.bool (modint_Mul' a1 x2 a3 x4).1, s1.v], .int .i64 (modint_Mul' a1 x2 a3 x4).2.2] ∧ Nats h' s1 ((modint_Mul' a1 x2 a3 x4).2.1) ∧ Grow h h' ∧ Own h s1 := by
  rw [← ref03_Mul_eq]
  exact ref03_Mul_spec n2 n4 a1 a3

end Go.Ab

/- math/bits: Len64, LeadingZeros64. -/
set_option linter.unusedVariables false
set_option linter.unusedSimpArgs false
set_option maxRecDepth 10000
namespace Go.Ab
open Go.Proofs Go.Num

/-- n bits make x. -/
def Bl (x n : Nat) : Prop := x < 2 ^ n ∧ (n = 0 ∨ 2 ^ (n - 1) ≤ x)

def bl (i : Nat) : Nat := if i = 0 then 0 else Nat.log2 i + 1

theorem lit1_at : ∀ i : Nat, i < 256 → (lit1[i]?).map (·.toNat) = some (bl i) := by decide +kernel

theorem bl_Bl (i : Nat) : Bl i (bl i) := by
  unfold bl Bl
  by_cases h : i = 0
  · subst h
    simp
  · rw [if_neg h]
    refine ⟨Nat.lt_log2_self, .inr ?_⟩
    simpa using Nat.log2_self_le h

theorem lit1_some {i : Nat} (h : i < 256) : ∃ b : UInt8, lit1[i]? = some b ∧ Bl i b.toNat := by
  have e := lit1_at i h
  rw [Option.map_eq_some_iff] at e
  obtain ⟨b, e1, e2⟩ := e
  exact ⟨b, e1, by rw [e2]; exact bl_Bl i⟩

theorem Bl.up {x k n : Nat} (b : Bl (x / 2 ^ k) n) (h : 0 < x / 2 ^ k) : Bl x (k + n) := by
  obtain ⟨h1, h2⟩ := b
  have p : 0 < 2 ^ k := Nat.pow_pos (by decide)
  refine ⟨?_, .inr ?_⟩
  · rw [Nat.pow_add, Nat.mul_comm]
    exact (Nat.div_lt_iff_lt_mul p).1 h1
  · rcases h2 with rfl | h2
    · rw [Nat.pow_zero] at h1
      omega
    · by_cases hn : n = 0
      · subst hn
        rw [Nat.pow_zero] at h1
        omega
      · rw [show k + n - 1 = k + (n - 1) from by omega, Nat.pow_add, Nat.mul_comm]
        exact (Nat.le_div_iff_mul_le p).1 h2

theorem Bl.le {x n : Nat} (b : Bl x n) {m : Nat} (h : x < 2 ^ m) : n ≤ m := by
  rcases b.2 with h1 | h1
  · omega
  · rcases Nat.lt_or_ge m n with h2 | h2
    · have : 2 ^ m ≤ 2 ^ (n - 1) := Nat.pow_le_pow_right (by decide) (by omega)
      omega
    · exact h2

theorem wrap8 {n : Nat} (h : n < 256) : IntKind.wrap .u8 (n : Int) = (n : Int) := by
  simp [IntKind.wrap, IntKind.bits, IntKind.signed]
  omega

theorem len64_leaf {x : Nat} (hx : x < 256) {P : AV → AH → Prop} {h : AH} {K : Int → Int} (H : ∀ n : Nat, Bl x n → n ≤ 8 → P (.int .i64 (K (n : Int))) h) :
    Runs (cond (decide (0 ≤ (IntKind.wrap .u8 (x : Int)))) ((lit1[Int.toNat (IntKind.wrap .u8 (x : Int))]?).bind fun b => some (.int .i64 (K (IntKind.wrap .i64 (b.toNat : Int))), h)) none) P := by
  rw [wrap8 hx, Int.toNat_natCast]
  obtain ⟨b, e1, e2⟩ := lit1_some hx
  refine Runs.ifT (by rw [decide_eq_true_eq]; omega) ?_
  refine Runs.step e1 ?_
  have := e2.le (m := 8) hx
  rw [wrap_nat (by omega)]
  exact Runs.ret (H _ e2 this)

theorem len64_spec {x : Nat} (hx : x < 18446744073709551616) {h : AH} : ∃ n : Nat, go (.fn F.math_bits_Len64 [.int .u64 (x : Int)]) h = some (.int .i64 (n : Int), h) ∧ Bl x n := by
  have key : Runs (go (.fn F.math_bits_Len64 [.int .u64 (x : Int)]) h) fun v h' => ∃ n : Nat, v = .int .i64 (n : Int) ∧ h' = h ∧ Bl x n := by
    rw [u_math_bits_Len64]
    have s32 : ishr .u64 (x : Int) 32 = ((x / 2 ^ 32 : Nat) : Int) := ishr_nat x 32
    have s16 : ishr .u64 (x : Int) 16 = ((x / 2 ^ 16 : Nat) : Int) := ishr_nat x 16
    have s8 : ishr .u64 (x : Int) 8 = ((x / 2 ^ 8 : Nat) : Int) := ishr_nat x 8
    have s3216 : ishr .u64 ((x / 2 ^ 32 : Nat) : Int) 16 = ((x / 2 ^ 32 / 2 ^ 16 : Nat) : Int) := ishr_nat _ 16
    have s328 : ishr .u64 ((x / 2 ^ 32 : Nat) : Int) 8 = ((x / 2 ^ 32 / 2 ^ 8 : Nat) : Int) := ishr_nat _ 8
    have s168 : ishr .u64 ((x / 2 ^ 16 : Nat) : Int) 8 = ((x / 2 ^ 16 / 2 ^ 8 : Nat) : Int) := ishr_nat _ 8
    have s32168 : ishr .u64 ((x / 2 ^ 32 / 2 ^ 16 : Nat) : Int) 8 = ((x / 2 ^ 32 / 2 ^ 16 / 2 ^ 8 : Nat) : Int) := ishr_nat _ 8
    rw [s32, s3216, s32168, s328, s16, s168, s8]
    refine Runs.cond (fun k1 => ?_) (fun k1 => ?_)
    · rw [decide_eq_true_eq] at k1
      refine Runs.cond (fun k2 => ?_) (fun k2 => ?_)
      · rw [decide_eq_true_eq] at k2
        refine Runs.cond (fun k3 => ?_) (fun k3 => ?_)
        · rw [decide_eq_true_eq] at k3
          refine len64_leaf (K := fun n => IntKind.wrap .i64 ((IntKind.wrap .i64 ((IntKind.wrap .i64 (32 + 16)) + 8)) + n)) (by omega) fun n b hn => ⟨32 + (16 + (8 + n)), ?_, rfl, ((b.up (by omega)).up (by omega)).up (by omega)⟩
          rw [show (IntKind.wrap .i64 ((IntKind.wrap .i64 (32 + 16)) + 8)) = 56 from by decide, wrap64 (by omega) (by omega)]
          congr 1
          omega
        · rw [decide_eq_false_iff_not] at k3
          refine len64_leaf (K := fun n => IntKind.wrap .i64 ((IntKind.wrap .i64 (32 + 16)) + n)) (by omega) fun n b hn => ⟨32 + (16 + n), ?_, rfl, (b.up (by omega)).up (by omega)⟩
          rw [show (IntKind.wrap .i64 (32 + 16)) = 48 from by decide, wrap64 (by omega) (by omega)]
          congr 1
          omega
      · rw [decide_eq_false_iff_not] at k2
        refine Runs.cond (fun k3 => ?_) (fun k3 => ?_)
        · rw [decide_eq_true_eq] at k3
          refine len64_leaf (K := fun n => IntKind.wrap .i64 ((IntKind.wrap .i64 (32 + 8)) + n)) (by omega) fun n b hn => ⟨32 + (8 + n), ?_, rfl, (b.up (by omega)).up (by omega)⟩
          rw [show (IntKind.wrap .i64 (32 + 8)) = 40 from by decide, wrap64 (by omega) (by omega)]
          congr 1
          omega
        · rw [decide_eq_false_iff_not] at k3
          refine len64_leaf (K := fun n => IntKind.wrap .i64 (32 + n)) (by omega) fun n b hn => ⟨32 + n, ?_, rfl, b.up (by omega)⟩
          rw [wrap64 (by omega) (by omega)]
          congr 1
    · rw [decide_eq_false_iff_not] at k1
      refine Runs.cond (fun k2 => ?_) (fun k2 => ?_)
      · rw [decide_eq_true_eq] at k2
        refine Runs.cond (fun k3 => ?_) (fun k3 => ?_)
        · rw [decide_eq_true_eq] at k3
          refine len64_leaf (K := fun n => IntKind.wrap .i64 ((IntKind.wrap .i64 ((IntKind.wrap .i64 (0 + 16)) + 8)) + n)) (by omega) fun n b hn => ⟨16 + (8 + n), ?_, rfl, (b.up (by omega)).up (by omega)⟩
          rw [show (IntKind.wrap .i64 ((IntKind.wrap .i64 (0 + 16)) + 8)) = 24 from by decide, wrap64 (by omega) (by omega)]
          congr 1
          omega
        · rw [decide_eq_false_iff_not] at k3
          refine len64_leaf (K := fun n => IntKind.wrap .i64 ((IntKind.wrap .i64 (0 + 16)) + n)) (by omega) fun n b hn => ⟨16 + n, ?_, rfl, b.up (by omega)⟩
          rw [show (IntKind.wrap .i64 (0 + 16)) = 16 from by decide, wrap64 (by omega) (by omega)]
          congr 1
      · rw [decide_eq_false_iff_not] at k2
        refine Runs.cond (fun k3 => ?_) (fun k3 => ?_)
        · rw [decide_eq_true_eq] at k3
          refine len64_leaf (K := fun n => IntKind.wrap .i64 ((IntKind.wrap .i64 (0 + 8)) + n)) (by omega) fun n b hn => ⟨8 + n, ?_, rfl, b.up (by omega)⟩
          rw [show (IntKind.wrap .i64 (0 + 8)) = 8 from by decide, wrap64 (by omega) (by omega)]
          congr 1
        · rw [decide_eq_false_iff_not] at k3
          refine len64_leaf (K := fun n => IntKind.wrap .i64 (0 + n)) (by omega) fun n b hn => ⟨n, ?_, rfl, b⟩
          rw [wrap64 (by omega) (by omega)]
          congr 1
          omega
  obtain ⟨_, _, e, n, rfl, rfl, b⟩ := key
  exact ⟨n, e, b⟩

/-- How far x can be moved up. -/
theorem lz64_spec {x : Nat} (hx : x < 18446744073709551616) (h0 : 0 < x) {h : AH} : ∃ n : Nat, go (.fn F.math_bits_LeadingZeros64 [.int .u64 (x : Int)]) h = some (.int .i64 (n : Int), h) ∧ n ≤ 63 ∧ 9223372036854775808 ≤ x * 2 ^ n ∧ x * 2 ^ n < 18446744073709551616 := by
  obtain ⟨l, e, b⟩ := len64_spec hx (h := h)
  have hl := b.le (m := 64) hx
  have hl1 : 1 ≤ l := by
    rcases Nat.eq_zero_or_pos l with e | e
    · subst e
      have := b.1
      simp at this
      omega
    · exact e
  refine ⟨64 - l, ?_, by omega, ?_, ?_⟩
  · rw [u_math_bits_LeadingZeros64, e, Option.bind_some, Option.bind_some, avInt_int, Option.bind_some, wrap64 (by omega) (by omega)]
    rw [show (64 : Int) - (l : Int) = ((64 - l : Nat) : Int) from by omega]
  · rcases b.2 with h1 | h1
    · omega
    · have h2 : 2 ^ (l - 1) * 2 ^ (64 - l) ≤ x * 2 ^ (64 - l) := Nat.mul_le_mul_right _ h1
      rw [← Nat.pow_add, show l - 1 + (64 - l) = 63 from by omega] at h2
      exact h2
  · have h2 : x * 2 ^ (64 - l) < 2 ^ l * 2 ^ (64 - l) := Nat.mul_lt_mul_of_pos_right b.1 (Nat.pow_pos (by decide))
    rw [← Nat.pow_add, show l + (64 - l) = 64 from by omega] at h2
    exact h2

end Go.Ab

/- math/bits: LeadingZeros64 as a function; bits that are moved. -/
set_option linter.unusedVariables false
set_option linter.unusedSimpArgs false
set_option maxRecDepth 10000
namespace Go.Ab
open Go.Proofs Go.Num

theorem Bl.uniq {x n m : Nat} (a : Bl x n) (b : Bl x m) : n = m := Nat.le_antisymm (a.le b.1) (b.le a.1)

theorem lz_spec (a : Int) {h : AH} (ha : 0 ≤ a ∧ a < 18446744073709551616) : go (.fn F.math_bits_LeadingZeros64 [.int .u64 a]) h = some (.int .i64 ((64 - bl a.toNat : Nat) : Int), h) := by
  obtain ⟨x, rfl⟩ : ∃ x : Nat, a = (x : Int) := ⟨a.toNat, by omega⟩
  obtain ⟨l, e, b⟩ := len64_spec (x := x) (by omega) (h := h)
  have hl := b.le (m := 64) (show x < 2 ^ 64 by omega)
  have := b.uniq (bl_Bl x)
  subst this
  rw [u_math_bits_LeadingZeros64, e, Option.bind_some, Option.bind_some, avInt_int, Option.bind_some, Int.toNat_natCast, wrap64 (by omega) (by omega)]
  rw [show (64 : Int) - (bl x : Int) = ((64 - bl x : Nat) : Int) from by omega]

/-- How far x can be moved up. -/
theorem lz_bounds {x : Nat} (hx : x < 18446744073709551616) (h0 : 0 < x) : 64 - bl x ≤ 63 ∧ 9223372036854775808 ≤ x * 2 ^ (64 - bl x) ∧ x * 2 ^ (64 - bl x) < 18446744073709551616 := by
  have b := bl_Bl x
  generalize bl x = l at b
  have hl := b.le (m := 64) (show x < 2 ^ 64 by omega)
  have hl1 : 1 ≤ l := by
    rcases Nat.eq_zero_or_pos l with e | e
    · subst e
      have := b.1
      rw [Nat.pow_zero] at this
      omega
    · exact e
  refine ⟨by omega, ?_, ?_⟩
  · rcases b.2 with h1 | h1
    · omega
    · have h2 : 2 ^ (l - 1) * 2 ^ (64 - l) ≤ x * 2 ^ (64 - l) := Nat.mul_le_mul_right _ h1
      rw [← Nat.pow_add, show l - 1 + (64 - l) = 63 from by omega] at h2
      exact h2
  · have h2 : x * 2 ^ (64 - l) < 2 ^ l * 2 ^ (64 - l) := Nat.mul_lt_mul_of_pos_right b.1 (Nat.pow_pos (by decide))
    rw [← Nat.pow_add, show l + (64 - l) = 64 from by omega] at h2
    exact h2

theorem ishl_nat (x n : Nat) (hn : n ≤ 64) : ishl .u64 (x : Int) (n : Int) = ((x * 2 ^ n % 18446744073709551616 : Nat) : Int) := by
  unfold ishl
  rw [Int.toNat_natCast, show IntKind.bits .u64 = 64 from rfl, Nat.min_eq_left hn, wrapU]
  have : (x : Int) * (2 : Int) ^ n = ((x * 2 ^ n : Nat) : Int) := by simp
  rw [this]
  rfl

theorem ior_add {a c s : Nat} (h : a * 2 ^ s < 18446744073709551616) (hc : c < 2 ^ s) (hs : s ≤ 64) : ior .u64 ((a * 2 ^ s : Nat) : Int) (c : Int) = ((a * 2 ^ s + c : Nat) : Int) := by
  have p : 0 < 2 ^ s := Nat.pow_pos (by decide)
  have hc' : c < 18446744073709551616 := show c < 2 ^ 64 from Nat.lt_of_lt_of_le hc (Nat.pow_le_pow_right (by decide) hs)
  have hsum : a * 2 ^ s + c < 18446744073709551616 := by
    have e : 2 ^ (64 - s) * 2 ^ s = 18446744073709551616 := by rw [← Nat.pow_add, show 64 - s + s = 64 from by omega]
    have h1 : a < 2 ^ (64 - s) := Nat.lt_of_mul_lt_mul_right (a := 2 ^ s) (by rw [e]; exact h)
    have h2 : (a + 1) * 2 ^ s ≤ 2 ^ (64 - s) * 2 ^ s := Nat.mul_le_mul_right _ h1
    rw [e, Nat.add_mul, Nat.one_mul] at h2
    omega
  unfold ior
  rw [show IntKind.bits .u64 = 64 from rfl, wrapU]
  have e1 : BitVec.ofInt 64 ((a * 2 ^ s : Nat) : Int) = BitVec.ofNat 64 (a * 2 ^ s) := rfl
  have e2 : BitVec.ofInt 64 (c : Int) = BitVec.ofNat 64 c := rfl
  have e3 := Nat.shiftLeft_add_eq_or_of_lt hc a
  rw [Nat.shiftLeft_eq] at e3
  rw [e1, e2, BitVec.toNat_or, BitVec.toNat_ofNat, BitVec.toNat_ofNat, Nat.mod_eq_of_lt (show a * 2 ^ s < 2 ^ 64 from h), Nat.mod_eq_of_lt (show c < 2 ^ 64 from hc'), ← e3]
  omega

end Go.Ab

/- math/bits: Div64: printed by wip/tools/walk.py. -/
set_option linter.unusedVariables false
set_option linter.unusedSimpArgs false
set_option maxRecDepth 10000
namespace Go.Ab
open Go.Proofs Go.Num

inductive math_bits_Div64_St
  | fn (a1 : Int) (a2 : Int) (a3 : Int)
  | p3 (a1 : Int) (a2 : Int) (a3 : Int)
  | p17 (a1 : Int) (a2 : Int) (a3 : Int) (a4 : Int) (a5 : Int) (a6 : Int) (a7 : Int) (a8 : Int) (a9 : Int)
  | p24 (a1 : Int) (a2 : Int) (a3 : Int) (a4 : Int) (a5 : Int) (a6 : Int) (a7 : Int) (a8 : Int) (a9 : Int)

abbrev math_bits_Div64_Res := Int × Int

noncomputable def math_bits_Div64_fn' (a1 : Int) (a2 : Int) (a3 : Int) : Option (math_bits_Div64_St ⊕ math_bits_Div64_Res) :=
  cond (decide (a3 = 0)) (none) (some (.inl (.p3 a1 a2 a3)))

noncomputable def math_bits_Div64_p3' (a1 : Int) (a2 : Int) (a3 : Int) : Option (math_bits_Div64_St ⊕ math_bits_Div64_Res) :=
  cond (decide (a3 ≤ a1)) (none) (cond (decide (a1 = 0)) (cond (decide (a3 = 0)) (none) (cond (decide (a3 = 0)) (none) (some (.inr (IntKind.wrap .u64 (Int.tdiv a2 a3), Int.tmod a2 a3))))) ((need (0 ≤ a3 ∧ a3 < 18446744073709551616)).bind fun c6_0 => cond (decide ((IntKind.wrap .u64 (((64 - bl (Int.toNat a3) : Nat) : Int))) < 0)) (none) (cond (decide ((IntKind.wrap .u64 (((64 - bl (Int.toNat a3) : Nat) : Int))) < 0)) (none) (cond (decide ((IntKind.wrap .u64 (64 - (IntKind.wrap .u64 (((64 - bl (Int.toNat a3) : Nat) : Int))))) < 0)) (none) (cond (decide ((IntKind.wrap .u64 (((64 - bl (Int.toNat a3) : Nat) : Int))) < 0)) (none) (cond (decide ((ishr .u64 (ishl .u64 a3 (IntKind.wrap .u64 (((64 - bl (Int.toNat a3) : Nat) : Int)))) 32) = 0)) (none) (some (.inl (.p17 (ishl .u64 a3 (IntKind.wrap .u64 (((64 - bl (Int.toNat a3) : Nat) : Int)))) (IntKind.wrap .u64 (((64 - bl (Int.toNat a3) : Nat) : Int))) (ishr .u64 (ishl .u64 a3 (IntKind.wrap .u64 (((64 - bl (Int.toNat a3) : Nat) : Int)))) 32) (iand .u64 (ishl .u64 a3 (IntKind.wrap .u64 (((64 - bl (Int.toNat a3) : Nat) : Int)))) 4294967295) (ior .u64 (ishl .u64 a1 (IntKind.wrap .u64 (((64 - bl (Int.toNat a3) : Nat) : Int)))) (ishr .u64 a2 (IntKind.wrap .u64 (64 - (IntKind.wrap .u64 (((64 - bl (Int.toNat a3) : Nat) : Int))))))) (ishr .u64 (ishl .u64 a2 (IntKind.wrap .u64 (((64 - bl (Int.toNat a3) : Nat) : Int)))) 32) (iand .u64 (ishl .u64 a2 (IntKind.wrap .u64 (((64 - bl (Int.toNat a3) : Nat) : Int)))) 4294967295) (IntKind.wrap .u64 (Int.tdiv (ior .u64 (ishl .u64 a1 (IntKind.wrap .u64 (((64 - bl (Int.toNat a3) : Nat) : Int)))) (ishr .u64 a2 (IntKind.wrap .u64 (64 - (IntKind.wrap .u64 (((64 - bl (Int.toNat a3) : Nat) : Int))))))) (ishr .u64 (ishl .u64 a3 (IntKind.wrap .u64 (((64 - bl (Int.toNat a3) : Nat) : Int)))) 32))) (IntKind.wrap .u64 ((ior .u64 (ishl .u64 a1 (IntKind.wrap .u64 (((64 - bl (Int.toNat a3) : Nat) : Int)))) (ishr .u64 a2 (IntKind.wrap .u64 (64 - (IntKind.wrap .u64 (((64 - bl (Int.toNat a3) : Nat) : Int))))))) - (IntKind.wrap .u64 ((IntKind.wrap .u64 (Int.tdiv (ior .u64 (ishl .u64 a1 (IntKind.wrap .u64 (((64 - bl (Int.toNat a3) : Nat) : Int)))) (ishr .u64 a2 (IntKind.wrap .u64 (64 - (IntKind.wrap .u64 (((64 - bl (Int.toNat a3) : Nat) : Int))))))) (ishr .u64 (ishl .u64 a3 (IntKind.wrap .u64 (((64 - bl (Int.toNat a3) : Nat) : Int)))) 32))) * (ishr .u64 (ishl .u64 a3 (IntKind.wrap .u64 (((64 - bl (Int.toNat a3) : Nat) : Int)))) 32))))))))))))))

noncomputable def math_bits_Div64_p17' (a1 : Int) (a2 : Int) (a3 : Int) (a4 : Int) (a5 : Int) (a6 : Int) (a7 : Int) (a8 : Int) (a9 : Int) : Option (math_bits_Div64_St ⊕ math_bits_Div64_Res) :=
  cond (decide (a8 ≥ 4294967296)) (cond (decide ((IntKind.wrap .u64 (a9 + a3)) ≥ 4294967296)) (cond (decide (a3 = 0)) (none) (some (.inl (.p24 a1 a2 a3 a4 a7 (IntKind.wrap .u64 (a8 - 1)) (IntKind.wrap .u64 ((IntKind.wrap .u64 ((IntKind.wrap .u64 ((IntKind.wrap .u64 (a5 * 4294967296)) + a6)) - (IntKind.wrap .u64 ((IntKind.wrap .u64 (a8 - 1)) * a1)))) - (IntKind.wrap .u64 ((IntKind.wrap .u64 (Int.tdiv (IntKind.wrap .u64 ((IntKind.wrap .u64 ((IntKind.wrap .u64 (a5 * 4294967296)) + a6)) - (IntKind.wrap .u64 ((IntKind.wrap .u64 (a8 - 1)) * a1)))) a3)) * a3)))) (IntKind.wrap .u64 ((IntKind.wrap .u64 ((IntKind.wrap .u64 (a5 * 4294967296)) + a6)) - (IntKind.wrap .u64 ((IntKind.wrap .u64 (a8 - 1)) * a1)))) (IntKind.wrap .u64 (Int.tdiv (IntKind.wrap .u64 ((IntKind.wrap .u64 ((IntKind.wrap .u64 (a5 * 4294967296)) + a6)) - (IntKind.wrap .u64 ((IntKind.wrap .u64 (a8 - 1)) * a1)))) a3)))))) (some (.inl (.p17 a1 a2 a3 a4 a5 a6 a7 (IntKind.wrap .u64 (a8 - 1)) (IntKind.wrap .u64 (a9 + a3)))))) (cond (decide ((IntKind.wrap .u64 (a8 * a4)) > (IntKind.wrap .u64 ((IntKind.wrap .u64 (4294967296 * a9)) + a6)))) (cond (decide ((IntKind.wrap .u64 (a9 + a3)) ≥ 4294967296)) (cond (decide (a3 = 0)) (none) (some (.inl (.p24 a1 a2 a3 a4 a7 (IntKind.wrap .u64 (a8 - 1)) (IntKind.wrap .u64 ((IntKind.wrap .u64 ((IntKind.wrap .u64 ((IntKind.wrap .u64 (a5 * 4294967296)) + a6)) - (IntKind.wrap .u64 ((IntKind.wrap .u64 (a8 - 1)) * a1)))) - (IntKind.wrap .u64 ((IntKind.wrap .u64 (Int.tdiv (IntKind.wrap .u64 ((IntKind.wrap .u64 ((IntKind.wrap .u64 (a5 * 4294967296)) + a6)) - (IntKind.wrap .u64 ((IntKind.wrap .u64 (a8 - 1)) * a1)))) a3)) * a3)))) (IntKind.wrap .u64 ((IntKind.wrap .u64 ((IntKind.wrap .u64 (a5 * 4294967296)) + a6)) - (IntKind.wrap .u64 ((IntKind.wrap .u64 (a8 - 1)) * a1)))) (IntKind.wrap .u64 (Int.tdiv (IntKind.wrap .u64 ((IntKind.wrap .u64 ((IntKind.wrap .u64 (a5 * 4294967296)) + a6)) - (IntKind.wrap .u64 ((IntKind.wrap .u64 (a8 - 1)) * a1)))) a3)))))) (some (.inl (.p17 a1 a2 a3 a4 a5 a6 a7 (IntKind.wrap .u64 (a8 - 1)) (IntKind.wrap .u64 (a9 + a3)))))) (cond (decide (a3 = 0)) (none) (some (.inl (.p24 a1 a2 a3 a4 a7 a8 (IntKind.wrap .u64 ((IntKind.wrap .u64 ((IntKind.wrap .u64 ((IntKind.wrap .u64 (a5 * 4294967296)) + a6)) - (IntKind.wrap .u64 (a8 * a1)))) - (IntKind.wrap .u64 ((IntKind.wrap .u64 (Int.tdiv (IntKind.wrap .u64 ((IntKind.wrap .u64 ((IntKind.wrap .u64 (a5 * 4294967296)) + a6)) - (IntKind.wrap .u64 (a8 * a1)))) a3)) * a3)))) (IntKind.wrap .u64 ((IntKind.wrap .u64 ((IntKind.wrap .u64 (a5 * 4294967296)) + a6)) - (IntKind.wrap .u64 (a8 * a1)))) (IntKind.wrap .u64 (Int.tdiv (IntKind.wrap .u64 ((IntKind.wrap .u64 ((IntKind.wrap .u64 (a5 * 4294967296)) + a6)) - (IntKind.wrap .u64 (a8 * a1)))) a3)))))))

noncomputable def math_bits_Div64_p24' (a1 : Int) (a2 : Int) (a3 : Int) (a4 : Int) (a5 : Int) (a6 : Int) (a7 : Int) (a8 : Int) (a9 : Int) : Option (math_bits_Div64_St ⊕ math_bits_Div64_Res) :=
  cond (decide (a9 ≥ 4294967296)) (cond (decide ((IntKind.wrap .u64 (a7 + a3)) ≥ 4294967296)) (cond (decide (a2 < 0)) (none) (some (.inr (IntKind.wrap .u64 ((IntKind.wrap .u64 (a6 * 4294967296)) + (IntKind.wrap .u64 (a9 - 1))), ishr .u64 (IntKind.wrap .u64 ((IntKind.wrap .u64 ((IntKind.wrap .u64 (a8 * 4294967296)) + a5)) - (IntKind.wrap .u64 ((IntKind.wrap .u64 (a9 - 1)) * a1)))) a2)))) (some (.inl (.p24 a1 a2 a3 a4 a5 a6 (IntKind.wrap .u64 (a7 + a3)) a8 (IntKind.wrap .u64 (a9 - 1)))))) (cond (decide ((IntKind.wrap .u64 (a9 * a4)) > (IntKind.wrap .u64 ((IntKind.wrap .u64 (4294967296 * a7)) + a5)))) (cond (decide ((IntKind.wrap .u64 (a7 + a3)) ≥ 4294967296)) (cond (decide (a2 < 0)) (none) (some (.inr (IntKind.wrap .u64 ((IntKind.wrap .u64 (a6 * 4294967296)) + (IntKind.wrap .u64 (a9 - 1))), ishr .u64 (IntKind.wrap .u64 ((IntKind.wrap .u64 ((IntKind.wrap .u64 (a8 * 4294967296)) + a5)) - (IntKind.wrap .u64 ((IntKind.wrap .u64 (a9 - 1)) * a1)))) a2)))) (some (.inl (.p24 a1 a2 a3 a4 a5 a6 (IntKind.wrap .u64 (a7 + a3)) a8 (IntKind.wrap .u64 (a9 - 1)))))) (cond (decide (a2 < 0)) (none) (some (.inr (IntKind.wrap .u64 ((IntKind.wrap .u64 (a6 * 4294967296)) + a9), ishr .u64 (IntKind.wrap .u64 ((IntKind.wrap .u64 ((IntKind.wrap .u64 (a8 * 4294967296)) + a5)) - (IntKind.wrap .u64 (a9 * a1)))) a2)))))

noncomputable def math_bits_Div64_step : math_bits_Div64_St → Option (math_bits_Div64_St ⊕ math_bits_Div64_Res)
  | .fn a1 a2 a3 => math_bits_Div64_fn' a1 a2 a3
  | .p3 a1 a2 a3 => math_bits_Div64_p3' a1 a2 a3
  | .p17 a1 a2 a3 a4 a5 a6 a7 a8 a9 => math_bits_Div64_p17' a1 a2 a3 a4 a5 a6 a7 a8 a9
  | .p24 a1 a2 a3 a4 a5 a6 a7 a8 a9 => math_bits_Div64_p24' a1 a2 a3 a4 a5 a6 a7 a8 a9

@[reducible] def math_bits_Div64_post (h0 : AH) (r : math_bits_Div64_Res) (v : AV) (h' : AH) : Prop := v = .tup [.int .u64 r.1, .int .u64 r.2] ∧ Grow h0 h'

def math_bits_Div64_At (r : math_bits_Div64_Res) : math_bits_Div64_St → Prop
  | .fn a1 a2 a3 => ∀ {h : AH}, Runs (go (.fn F.math_bits_Div64 [.int .u64 a1, .int .u64 a2, .int .u64 a3]) h) (math_bits_Div64_post h r)
  | .p3 a1 a2 a3 => ∀ {h0 h : AH}, Grow h0 h → Runs (go (.pt F.math_bits_Div64 Td.math_bits_Div64_3 [(0, .int .u64 a1), (1, .int .u64 a2), (2, .int .u64 a3)]) h) (math_bits_Div64_post h0 r)
  | .p17 a1 a2 a3 a4 a5 a6 a7 a8 a9 => ∀ {h0 h : AH}, Grow h0 h → Runs (go (.pt F.math_bits_Div64 Td.math_bits_Div64_17 [(2, .int .u64 a1), (8, .int .u64 a2), (9, .int .u64 a3), (10, .int .u64 a4), (11, .int .u64 a5), (13, .int .u64 a6), (14, .int .u64 a7), (15, .int .u64 a8), (16, .int .u64 a9)]) h) (math_bits_Div64_post h0 r)
  | .p24 a1 a2 a3 a4 a5 a6 a7 a8 a9 => ∀ {h0 h : AH}, Grow h0 h → Runs (go (.pt F.math_bits_Div64 Td.math_bits_Div64_24 [(2, .int .u64 a1), (8, .int .u64 a2), (9, .int .u64 a3), (10, .int .u64 a4), (14, .int .u64 a5), (15, .int .u64 a6), (16, .int .u64 a7), (17, .int .u64 a8), (18, .int .u64 a9)]) h) (math_bits_Div64_post h0 r)

theorem math_bits_Div64_fn_walk {r : math_bits_Div64_Res} {o : math_bits_Div64_St ⊕ math_bits_Div64_Res} {a1 : Int} {a2 : Int} {a3 : Int} (e : math_bits_Div64_fn' a1 a2 a3 = some o) (good : GoodS (math_bits_Div64_At r) r o) : math_bits_Div64_At r (.fn a1 a2 a3) := by
  intro h
  rw [u_math_bits_Div64]
  unfold math_bits_Div64_fn' at e
  refine Runs.cond (fun k4 => ?_) (fun k4 => ?_)
  · replace e := (condT k4).symm.trans e
    cases e
  · replace e := (condF k4).symm.trans e
    cases e
    exact good (Grow.refl _)

theorem math_bits_Div64_p3_walk {r : math_bits_Div64_Res} {o : math_bits_Div64_St ⊕ math_bits_Div64_Res} {a1 : Int} {a2 : Int} {a3 : Int} (e : math_bits_Div64_p3' a1 a2 a3 = some o) (good : GoodS (math_bits_Div64_At r) r o) : math_bits_Div64_At r (.p3 a1 a2 a3) := by
  intro h0 h g0
  rw [p_math_bits_Div64_3]
  unfold math_bits_Div64_p3' at e
  refine Runs.cond (fun k4 => ?_) (fun k4 => ?_)
  · replace e := (condT k4).symm.trans e
    cases e
  · replace e := (condF k4).symm.trans e
    refine Runs.cond (fun k5 => ?_) (fun k5 => ?_)
    · replace e := (condT k5).symm.trans e
      refine Runs.cond (fun k6 => ?_) (fun k6 => ?_)
      · replace e := (condT k6).symm.trans e
        cases e
      · replace e := (condF k6).symm.trans e
        refine Runs.cond (fun k7 => ?_) (fun k7 => ?_)
        · replace e := (condT k7).symm.trans e
          cases e
        · replace e := (condF k7).symm.trans e
          cases e
          cases good
          exact Runs.ret ⟨rfl, g0⟩
    · replace e := (condF k5).symm.trans e
      obtain ⟨c6_0, q6_0, e⟩ := Option.bind_eq_some_iff.1 e
      refine Runs.step (lz_spec a3  c6_0.down) ?_
      refine Runs.step (seen (avInt_int _ _)) ?_
      refine Runs.cond (fun k7 => ?_) (fun k7 => ?_)
      · replace e := (condT k7).symm.trans e
        cases e
      · replace e := (condF k7).symm.trans e
        refine Runs.cond (fun k8 => ?_) (fun k8 => ?_)
        · replace e := (condT k8).symm.trans e
          cases e
        · replace e := (condF k8).symm.trans e
          refine Runs.cond (fun k9 => ?_) (fun k9 => ?_)
          · replace e := (condT k9).symm.trans e
            cases e
          · replace e := (condF k9).symm.trans e
            refine Runs.cond (fun k10 => ?_) (fun k10 => ?_)
            · replace e := (condT k10).symm.trans e
              cases e
            · replace e := (condF k10).symm.trans e
              refine Runs.cond (fun k11 => ?_) (fun k11 => ?_)
              · replace e := (condT k11).symm.trans e
                cases e
              · replace e := (condF k11).symm.trans e
                cases e
                exact good g0

theorem math_bits_Div64_p17_walk {r : math_bits_Div64_Res} {o : math_bits_Div64_St ⊕ math_bits_Div64_Res} {a1 : Int} {a2 : Int} {a3 : Int} {a4 : Int} {a5 : Int} {a6 : Int} {a7 : Int} {a8 : Int} {a9 : Int} (e : math_bits_Div64_p17' a1 a2 a3 a4 a5 a6 a7 a8 a9 = some o) (good : GoodS (math_bits_Div64_At r) r o) : math_bits_Div64_At r (.p17 a1 a2 a3 a4 a5 a6 a7 a8 a9) := by
  intro h0 h g0
  rw [p_math_bits_Div64_17]
  unfold math_bits_Div64_p17' at e
  refine Runs.cond (fun k10 => ?_) (fun k10 => ?_)
  · replace e := (condT k10).symm.trans e
    refine Runs.cond (fun k11 => ?_) (fun k11 => ?_)
    · replace e := (condT k11).symm.trans e
      refine Runs.cond (fun k12 => ?_) (fun k12 => ?_)
      · replace e := (condT k12).symm.trans e
        cases e
      · replace e := (condF k12).symm.trans e
        cases e
        exact good g0
    · replace e := (condF k11).symm.trans e
      cases e
      exact good g0
  · replace e := (condF k10).symm.trans e
    refine Runs.cond (fun k11 => ?_) (fun k11 => ?_)
    · replace e := (condT k11).symm.trans e
      refine Runs.cond (fun k12 => ?_) (fun k12 => ?_)
      · replace e := (condT k12).symm.trans e
        refine Runs.cond (fun k13 => ?_) (fun k13 => ?_)
        · replace e := (condT k13).symm.trans e
          cases e
        · replace e := (condF k13).symm.trans e
          cases e
          exact good g0
      · replace e := (condF k12).symm.trans e
        cases e
        exact good g0
    · replace e := (condF k11).symm.trans e
      refine Runs.cond (fun k12 => ?_) (fun k12 => ?_)
      · replace e := (condT k12).symm.trans e
        cases e
      · replace e := (condF k12).symm.trans e
        cases e
        exact good g0

theorem math_bits_Div64_p24_walk {r : math_bits_Div64_Res} {o : math_bits_Div64_St ⊕ math_bits_Div64_Res} {a1 : Int} {a2 : Int} {a3 : Int} {a4 : Int} {a5 : Int} {a6 : Int} {a7 : Int} {a8 : Int} {a9 : Int} (e : math_bits_Div64_p24' a1 a2 a3 a4 a5 a6 a7 a8 a9 = some o) (good : GoodS (math_bits_Div64_At r) r o) : math_bits_Div64_At r (.p24 a1 a2 a3 a4 a5 a6 a7 a8 a9) := by
  intro h0 h g0
  rw [p_math_bits_Div64_24]
  unfold math_bits_Div64_p24' at e
  refine Runs.cond (fun k10 => ?_) (fun k10 => ?_)
  · replace e := (condT k10).symm.trans e
    refine Runs.cond (fun k11 => ?_) (fun k11 => ?_)
    · replace e := (condT k11).symm.trans e
      refine Runs.cond (fun k12 => ?_) (fun k12 => ?_)
      · replace e := (condT k12).symm.trans e
        cases e
      · replace e := (condF k12).symm.trans e
        cases e
        cases good
        exact Runs.ret ⟨rfl, g0⟩
    · replace e := (condF k11).symm.trans e
      cases e
      exact good g0
  · replace e := (condF k10).symm.trans e
    refine Runs.cond (fun k11 => ?_) (fun k11 => ?_)
    · replace e := (condT k11).symm.trans e
      refine Runs.cond (fun k12 => ?_) (fun k12 => ?_)
      · replace e := (condT k12).symm.trans e
        refine Runs.cond (fun k13 => ?_) (fun k13 => ?_)
        · replace e := (condT k13).symm.trans e
          cases e
        · replace e := (condF k13).symm.trans e
          cases e
          cases good
          exact Runs.ret ⟨rfl, g0⟩
      · replace e := (condF k12).symm.trans e
        cases e
        exact good g0
    · replace e := (condF k11).symm.trans e
      refine Runs.cond (fun k12 => ?_) (fun k12 => ?_)
      · replace e := (condT k12).symm.trans e
        cases e
      · replace e := (condF k12).symm.trans e
        cases e
        cases good
        exact Runs.ret ⟨rfl, g0⟩

theorem math_bits_Div64_run {s : math_bits_Div64_St} {r : math_bits_Div64_Res} (it : Iter math_bits_Div64_step s r) : math_bits_Div64_At r s := Iter.ind (fun s o e good => by
  cases s with
  | fn a1 a2 a3 => exact @math_bits_Div64_fn_walk _ _ a1 a2 a3 e good
  | p3 a1 a2 a3 => exact @math_bits_Div64_p3_walk _ _ a1 a2 a3 e good
  | p17 a1 a2 a3 a4 a5 a6 a7 a8 a9 => exact @math_bits_Div64_p17_walk _ _ a1 a2 a3 a4 a5 a6 a7 a8 a9 e good
  | p24 a1 a2 a3 a4 a5 a6 a7 a8 a9 => exact @math_bits_Div64_p24_walk _ _ a1 a2 a3 a4 a5 a6 a7 a8 a9 e good
  ) it

theorem math_bits_Div64_opt {h : AH}  {a1 : Int} {a2 : Int} {a3 : Int}  {r : math_bits_Div64_Res} (q : runP math_bits_Div64_step (.fn a1 a2 a3) = some r) : Runs (go (.fn F.math_bits_Div64 [.int .u64 a1, .int .u64 a2, .int .u64 a3]) h) (math_bits_Div64_post h r) := math_bits_Div64_run (runP_iter q) 

end Go.Ab

/- math/bits: what Div64 answers. -/
set_option linter.unusedVariables false
set_option linter.unusedSimpArgs false
set_option maxRecDepth 10000
namespace Go.Ab
open Go.Proofs Go.Num

theorem tdiv_nat (a c : Nat) : Int.tdiv (a : Int) (c : Int) = ((a / c : Nat) : Int) := rfl
theorem tmod_nat (a c : Nat) : Int.tmod (a : Int) (c : Int) = ((a % c : Nat) : Int) := rfl

/-- Where the second digit begins. -/
def st24 (a1 a2 a3 a4 a5 a6 a7 q : Int) : math_bits_Div64_St :=
  .p24 a1 a2 a3 a4 a7 q (IntKind.wrap .u64 ((IntKind.wrap .u64 ((IntKind.wrap .u64 ((IntKind.wrap .u64 (a5 * 4294967296)) + a6)) - (IntKind.wrap .u64 (q * a1)))) - (IntKind.wrap .u64 ((IntKind.wrap .u64 (Int.tdiv (IntKind.wrap .u64 ((IntKind.wrap .u64 ((IntKind.wrap .u64 (a5 * 4294967296)) + a6)) - (IntKind.wrap .u64 (q * a1)))) a3)) * a3)))) (IntKind.wrap .u64 ((IntKind.wrap .u64 ((IntKind.wrap .u64 (a5 * 4294967296)) + a6)) - (IntKind.wrap .u64 (q * a1)))) (IntKind.wrap .u64 (Int.tdiv (IntKind.wrap .u64 ((IntKind.wrap .u64 ((IntKind.wrap .u64 (a5 * 4294967296)) + a6)) - (IntKind.wrap .u64 (q * a1)))) a3))

/-- What is left of two digits by v. -/
theorem un_eq {u32 u1 q v : Nat} (hq : q = (u32 * 4294967296 + u1) / v) (hv0 : 0 < v) (hv : v < 18446744073709551616) : IntKind.wrap .u64 ((IntKind.wrap .u64 ((IntKind.wrap .u64 ((u32 : Int) * 4294967296)) + (u1 : Int))) - (IntKind.wrap .u64 ((q : Int) * (v : Int)))) = (((u32 * 4294967296 + u1) % v : Nat) : Int) := by
  have h1 := Nat.div_add_mod (u32 * 4294967296 + u1) v
  have h2 := Nat.mod_lt (u32 * 4294967296 + u1) hv0
  rw [← hq, Nat.mul_comm] at h1
  rw [wrapU, wrapU, wrapU, wrapU, ← Int.natCast_mul]
  generalize q * v = t at *
  generalize (u32 * 4294967296 + u1) % v = m at *
  omega

theorem st24_eq {s v v1 v0 u32 u1 u0 q : Nat} (hq : q = (u32 * 4294967296 + u1) / v) (hv0 : 0 < v) (hv : v < 18446744073709551616) (h1 : 0 < v1) :
    st24 v s v1 v0 u32 u1 u0 q = .p24 v s v1 v0 u0 q (((u32 * 4294967296 + u1) % v % v1 : Nat) : Int) (((u32 * 4294967296 + u1) % v : Nat) : Int) (((u32 * 4294967296 + u1) % v / v1 : Nat) : Int) := by
  unfold st24
  rw [un_eq hq hv0 hv, tdiv_nat]
  have h2 := Nat.mod_lt (u32 * 4294967296 + u1) hv0
  generalize (u32 * 4294967296 + u1) % v = m at *
  have h3 := Nat.div_le_self m v1
  rw [wrap_low (n := m / v1) (by omega), ← Int.natCast_mul]
  have h4 := Nat.div_add_mod m v1
  rw [Nat.mul_comm] at h4
  have h5 := Nat.mod_lt m h1
  rw [wrapU, wrapU]
  have e : ((m : Int) - ((m / v1 * v1 : Nat) : Int) % 18446744073709551616) % 18446744073709551616 = ((m % v1 : Nat) : Int) := by
    generalize m / v1 * v1 = t at *
    generalize m % v1 = z at *
    omega
  rw [e]

theorem div17 {s v v1 v0 u32 u1 u0 : Nat} {res : math_bits_Div64_Res} (hv : v = v1 * 4294967296 + v0) (h1 : 0 < v1) (h1' : v1 < 4294967296) (h0 : v0 < 4294967296) (hu : u32 < v) (hu1 : u1 < 4294967296)
    (K : Iter math_bits_Div64_step (st24 v s v1 v0 u32 u1 u0 (((u32 * 4294967296 + u1) / v : Nat) : Int)) res) :
    ∀ (q r : Nat), q * v1 + r = u32 → (u32 * 4294967296 + u1) / v ≤ q → r < 4294967296 → q < 8589934592 → Iter math_bits_Div64_step (.p17 v s v1 v0 u32 u1 u0 q r) res
  | q, r, e, hge, hr, hq => by
    have hv' : v < 18446744073709551616 := by omega
    -- one less
    have less : (4294967296 ≤ q ∨ 4294967296 * r + u1 < q * v0) → ∃ o, Iter math_bits_Div64_step o res ∧
        cond (decide ((IntKind.wrap .u64 ((r : Int) + (v1 : Int))) ≥ 4294967296)) (cond (decide ((v1 : Int) = 0)) none (some (Sum.inl (β := math_bits_Div64_Res) (st24 v s v1 v0 u32 u1 u0 (IntKind.wrap .u64 ((q : Int) - 1)))))) (some (.inl (.p17 v s v1 v0 u32 u1 u0 (IntKind.wrap .u64 ((q : Int) - 1)) (IntKind.wrap .u64 ((r : Int) + (v1 : Int)))))) = some (.inl o) := by
      intro t
      obtain ⟨k1, k2⟩ := kn_hi hv hu hu1 rfl e hge t
      obtain ⟨p, rfl⟩ : ∃ p, q = p + 1 := ⟨q - 1, by omega⟩
      rw [Nat.add_sub_cancel] at k1
      have e' : p * v1 + (r + v1) = u32 := by
        rw [Nat.add_mul, Nat.one_mul] at e
        omega
      have w1 : IntKind.wrap .u64 (((p + 1 : Nat) : Int) - 1) = (p : Int) := by rw [wrapU]; omega
      have w2 : IntKind.wrap .u64 ((r : Int) + (v1 : Int)) = ((r + v1 : Nat) : Int) := by rw [wrapU]; omega
      rw [w1, w2]
      by_cases ho : 4294967296 ≤ r + v1
      · have := kn_lo hv hu rfl e' k1 (kn_out hv h0 hu e' ho)
        rw [this] at K
        refine ⟨_, K, ?_⟩
        rw [condT (by rw [decide_eq_true_eq]; omega), condF (by rw [decide_eq_false_iff_not]; omega)]
      · refine ⟨_, div17 hv h1 h1' h0 hu hu1 K p (r + v1) e' k1 (by omega) (by omega), ?_⟩
        rw [condF (by rw [decide_eq_false_iff_not]; omega)]
    by_cases c1 : 4294967296 ≤ q
    · obtain ⟨o, k1, k2⟩ := less (.inl c1)
      refine .next ?_ k1
      show math_bits_Div64_p17' _ _ _ _ _ _ _ _ _ = _
      unfold math_bits_Div64_p17'
      rw [condT (by rw [decide_eq_true_eq]; omega)]
      exact k2
    · have m1 : q * v0 ≤ 4294967295 * 4294967295 := Nat.mul_le_mul (by omega) (by omega)
      have w3 : IntKind.wrap .u64 ((q : Int) * (v0 : Int)) = ((q * v0 : Nat) : Int) := by
        rw [← Int.natCast_mul]
        exact wrap_low (by omega)
      have w4 : IntKind.wrap .u64 ((IntKind.wrap .u64 (4294967296 * (r : Int))) + (u1 : Int)) = ((4294967296 * r + u1 : Nat) : Int) := by
        rw [wrapU, wrapU]
        omega
      by_cases c2 : 4294967296 * r + u1 < q * v0
      · obtain ⟨o, k1, k2⟩ := less (.inr c2)
        refine .next ?_ k1
        show math_bits_Div64_p17' _ _ _ _ _ _ _ _ _ = _
        unfold math_bits_Div64_p17'
        rw [condF (by rw [decide_eq_false_iff_not]; omega), w3, w4, condT (by rw [decide_eq_true_eq]; omega)]
        exact k2
      · have := kn_lo hv hu rfl e hge (by omega)
        rw [this] at K
        refine .next ?_ K
        show math_bits_Div64_p17' _ _ _ _ _ _ _ _ _ = _
        unfold math_bits_Div64_p17'
        rw [condF (by rw [decide_eq_false_iff_not]; omega), w3, w4, condF (by rw [decide_eq_false_iff_not]; omega), condF (by rw [decide_eq_false_iff_not]; omega)]
        rfl
termination_by q => q

/-- What is told at the end. -/
def fin24 (a1 a2 a5 a6 a8 q : Int) : Option (math_bits_Div64_St ⊕ math_bits_Div64_Res) :=
  cond (decide (a2 < 0)) none (some (.inr (IntKind.wrap .u64 ((IntKind.wrap .u64 (a6 * 4294967296)) + q), ishr .u64 (IntKind.wrap .u64 ((IntKind.wrap .u64 ((IntKind.wrap .u64 (a8 * 4294967296)) + a5)) - (IntKind.wrap .u64 (q * a1)))) a2)))

theorem div24 {s v v1 v0 u32 u1 q1 : Nat} {res : math_bits_Div64_Res} (hv : v = v1 * 4294967296 + v0) (h1 : 0 < v1) (h1' : v1 < 4294967296) (h0 : v0 < 4294967296) (hu : u32 < v) (hu1 : u1 < 4294967296)
    (K : fin24 v s u1 q1 u32 (((u32 * 4294967296 + u1) / v : Nat) : Int) = some (.inr res)) :
    ∀ (q r : Nat), q * v1 + r = u32 → (u32 * 4294967296 + u1) / v ≤ q → r < 4294967296 → q < 8589934592 → Iter math_bits_Div64_step (.p24 v s v1 v0 u1 q1 r u32 q) res
  | q, r, e, hge, hr, hq => by
    have hv' : v < 18446744073709551616 := by omega
    have less : (4294967296 ≤ q ∨ 4294967296 * r + u1 < q * v0) → ∃ o, (o = Sum.inr res ∨ ∃ st, o = .inl st ∧ Iter math_bits_Div64_step st res) ∧
        cond (decide ((IntKind.wrap .u64 ((r : Int) + (v1 : Int))) ≥ 4294967296)) (fin24 v s u1 q1 u32 (IntKind.wrap .u64 ((q : Int) - 1))) (some (.inl (.p24 v s v1 v0 u1 q1 (IntKind.wrap .u64 ((r : Int) + (v1 : Int))) u32 (IntKind.wrap .u64 ((q : Int) - 1))))) = some o := by
      intro t
      obtain ⟨k1, k2⟩ := kn_hi hv hu hu1 rfl e hge t
      obtain ⟨p, rfl⟩ : ∃ p, q = p + 1 := ⟨q - 1, by omega⟩
      rw [Nat.add_sub_cancel] at k1
      have e' : p * v1 + (r + v1) = u32 := by
        rw [Nat.add_mul, Nat.one_mul] at e
        omega
      have w1 : IntKind.wrap .u64 (((p + 1 : Nat) : Int) - 1) = (p : Int) := by rw [wrapU]; omega
      have w2 : IntKind.wrap .u64 ((r : Int) + (v1 : Int)) = ((r + v1 : Nat) : Int) := by rw [wrapU]; omega
      rw [w1, w2]
      by_cases ho : 4294967296 ≤ r + v1
      · have := kn_lo hv hu rfl e' k1 (kn_out hv h0 hu e' ho)
        rw [this] at K
        refine ⟨.inr res, .inl rfl, ?_⟩
        rw [condT (by rw [decide_eq_true_eq]; omega)]
        exact K
      · refine ⟨_, .inr ⟨_, rfl, div24 hv h1 h1' h0 hu hu1 K p (r + v1) e' k1 (by omega) (by omega)⟩, ?_⟩
        rw [condF (by rw [decide_eq_false_iff_not]; omega)]
    have go_on : ∀ {st : math_bits_Div64_St} {o : math_bits_Div64_St ⊕ math_bits_Div64_Res}, (o = Sum.inr res ∨ ∃ st, o = .inl st ∧ Iter math_bits_Div64_step st res) → math_bits_Div64_step st = some o → Iter math_bits_Div64_step st res := by
      intro st o h e
      rcases h with rfl | ⟨st', rfl, it⟩
      · exact .done e
      · exact .next e it
    by_cases c1 : 4294967296 ≤ q
    · obtain ⟨o, k1, k2⟩ := less (.inl c1)
      refine go_on k1 ?_
      show math_bits_Div64_p24' _ _ _ _ _ _ _ _ _ = _
      unfold math_bits_Div64_p24'
      rw [condT (by rw [decide_eq_true_eq]; omega)]
      exact k2
    · have m1 : q * v0 ≤ 4294967295 * 4294967295 := Nat.mul_le_mul (by omega) (by omega)
      have w3 : IntKind.wrap .u64 ((q : Int) * (v0 : Int)) = ((q * v0 : Nat) : Int) := by
        rw [← Int.natCast_mul]
        exact wrap_low (by omega)
      have w4 : IntKind.wrap .u64 ((IntKind.wrap .u64 (4294967296 * (r : Int))) + (u1 : Int)) = ((4294967296 * r + u1 : Nat) : Int) := by
        rw [wrapU, wrapU]
        omega
      by_cases c2 : 4294967296 * r + u1 < q * v0
      · obtain ⟨o, k1, k2⟩ := less (.inr c2)
        refine go_on k1 ?_
        show math_bits_Div64_p24' _ _ _ _ _ _ _ _ _ = _
        unfold math_bits_Div64_p24'
        rw [condF (by rw [decide_eq_false_iff_not]; omega), w3, w4, condT (by rw [decide_eq_true_eq]; omega)]
        exact k2
      · have := kn_lo hv hu rfl e hge (by omega)
        rw [this] at K
        refine .done ?_
        show math_bits_Div64_p24' _ _ _ _ _ _ _ _ _ = _
        unfold math_bits_Div64_p24'
        rw [condF (by rw [decide_eq_false_iff_not]; omega), w3, w4, condF (by rw [decide_eq_false_iff_not]; omega)]
        exact K
termination_by q => q

end Go.Ab

/- math/bits: Div64. -/
set_option linter.unusedVariables false
set_option linter.unusedSimpArgs false
set_option maxRecDepth 10000
namespace Go.Ab
open Go.Proofs Go.Num

/-- The parts that Div64 works with. -/
theorem div64_parts {hi lo y s : Nat} (hy : y * 2 ^ s < 18446744073709551616) (hlo : lo < 18446744073709551616) (hhi : hi < y) (hs : s ≤ 63) :
    hi * 2 ^ s + lo / 2 ^ (64 - s) < y * 2 ^ s ∧ (hi * 2 ^ s + lo / 2 ^ (64 - s)) * 18446744073709551616 + lo * 2 ^ s % 18446744073709551616 = (hi * 18446744073709551616 + lo) * 2 ^ s ∧ lo / 2 ^ (64 - s) < 2 ^ s ∧ hi * 2 ^ s < 18446744073709551616 := by
  have p : 0 < 2 ^ s := Nat.pow_pos (by decide)
  have e : 2 ^ (64 - s) * 2 ^ s = 18446744073709551616 := by rw [← Nat.pow_add, show 64 - s + s = 64 from by omega]
  have k1 : lo / 2 ^ (64 - s) < 2 ^ s := by
    rw [Nat.div_lt_iff_lt_mul (Nat.pow_pos (by decide)), Nat.mul_comm, e]
    exact hlo
  have k2 : (hi + 1) * 2 ^ s ≤ y * 2 ^ s := Nat.mul_le_mul_right _ hhi
  rw [Nat.add_mul, Nat.one_mul] at k2
  refine ⟨by omega, ?_, k1, by omega⟩
  have k3 : lo * 2 ^ s / 18446744073709551616 = lo / 2 ^ (64 - s) := by
    rw [← e, Nat.mul_div_mul_right _ _ p]
  have k4 := Nat.div_add_mod (lo * 2 ^ s) 18446744073709551616
  rw [k3] at k4
  have k5 : hi * 18446744073709551616 * 2 ^ s = hi * 2 ^ s * 18446744073709551616 := Nat.mul_right_comm _ _ _
  rw [Nat.add_mul, Nat.add_mul, k5]
  omega

theorem two_wrap {z1 z2 : Nat} (h : z1 * 4294967296 + z2 < 18446744073709551616) : IntKind.wrap .u64 ((IntKind.wrap .u64 ((z1 : Int) * 4294967296)) + (z2 : Int)) = ((z1 * 4294967296 + z2 : Nat) : Int) := by
  rw [wrapU, wrapU]
  omega

theorem div64_iter {hi lo y : Nat} (hy : y < 18446744073709551616) (hlo : lo < 18446744073709551616) (hhi : hi < y) :
    Iter math_bits_Div64_step (.fn hi lo y) ((((hi * 18446744073709551616 + lo) / y : Nat) : Int), (((hi * 18446744073709551616 + lo) % y : Nat) : Int)) := by
  refine .next (s' := .p3 hi lo y) ?_ ?_
  · show math_bits_Div64_fn' _ _ _ = _
    unfold math_bits_Div64_fn'
    rw [condF (by rw [decide_eq_false_iff_not]; omega)]
  by_cases h0 : hi = 0
  · subst h0
    refine .done ?_
    show math_bits_Div64_p3' _ _ _ = _
    unfold math_bits_Div64_p3'
    have hd := Nat.div_le_self lo y
    rw [condF (by rw [decide_eq_false_iff_not]; omega), condT (by rfl), condF (by rw [decide_eq_false_iff_not]; omega), condF (by rw [decide_eq_false_iff_not]; omega), tdiv_nat, tmod_nat, wrap_low (by omega), Nat.zero_mul, Nat.zero_add]
  obtain ⟨hs, hb1, hb2⟩ := lz_bounds hy (by omega)
  have hs64 : 64 - bl y ≤ 64 := by omega
  obtain ⟨p1, p2, p3, p4⟩ := div64_parts hb2 hlo hhi hs
  have ws : IntKind.wrap .u64 ((64 - bl (Int.toNat (y : Int)) : Nat) : Int) = ((64 - bl y : Nat) : Int) := by rw [Int.toNat_natCast]; exact wrap_low (by omega)
  have wt : IntKind.wrap .u64 (64 - ((64 - bl y : Nat) : Int)) = ((64 - (64 - bl y) : Nat) : Int) := by rw [wrapU]; omega
  generalize hsd : 64 - bl y = s at *
  have ey : ishl .u64 (y : Int) (s : Int) = ((y * 2 ^ s : Nat) : Int) := by rw [ishl_nat _ _ hs64, Nat.mod_eq_of_lt hb2]
  have eh : ishl .u64 (hi : Int) (s : Int) = ((hi * 2 ^ s : Nat) : Int) := by rw [ishl_nat _ _ hs64, Nat.mod_eq_of_lt p4]
  have el : ishl .u64 (lo : Int) (s : Int) = ((lo * 2 ^ s % 18446744073709551616 : Nat) : Int) := ishl_nat _ _ hs64
  have er : ishr .u64 (lo : Int) ((64 - s : Nat) : Int) = ((lo / 2 ^ (64 - s) : Nat) : Int) := by rw [ishr_nat, Nat.min_eq_left (by omega)]
  have eo := ior_add p4 p3 hs64
  generalize hu32 : hi * 2 ^ s + lo / 2 ^ (64 - s) = u32 at *
  have hl10 := Nat.mod_lt (lo * 2 ^ s) (show 0 < 18446744073709551616 by omega)
  generalize hl : lo * 2 ^ s % 18446744073709551616 = l10 at *
  generalize hv : y * 2 ^ s = v at *
  have e32 : ∀ x : Nat, ishr .u64 (x : Int) 32 = ((x / 4294967296 : Nat) : Int) := fun x => ishr_nat x 32
  -- the digits
  have tot : u32 * 18446744073709551616 + l10 = (u32 * 4294967296 + l10 / 4294967296) * 4294967296 + l10 % 4294967296 := by omega
  have hvv : v = v / 4294967296 * 4294967296 + v % 4294967296 := by omega
  have hv0 : 0 < v := by omega
  have hv1 : 0 < v / 4294967296 := by omega
  have hv1' : v / 4294967296 < 4294967296 := by omega
  have hm0 : v % 4294967296 < 4294967296 := by omega
  have hu1 : l10 / 4294967296 < 4294967296 := by omega
  have hu0 : l10 % 4294967296 < 4294967296 := by omega
  have first : u32 / (v / 4294967296) < 8589934592 := by
    rw [Nat.div_lt_iff_lt_mul hv1]
    omega
  have hm := Nat.mod_lt (u32 * 4294967296 + l10 / 4294967296) hv0
  have first2 : (u32 * 4294967296 + l10 / 4294967296) % v / (v / 4294967296) < 8589934592 := by
    rw [Nat.div_lt_iff_lt_mul hv1]
    omega
  have td := two_digits (w := u32 * 4294967296 + l10 / 4294967296) hv0 hu0
  rw [← tot, p2] at td
  have p := Nat.pow_pos (a := 2) (n := s) (by decide)
  rw [← hv, Nat.mul_div_mul_right _ _ p, Nat.mul_mod_mul_right, hv] at td
  refine .next (s' := .p17 v s (v / 4294967296 : Nat) (v % 4294967296 : Nat) u32 (l10 / 4294967296 : Nat) (l10 % 4294967296 : Nat) (u32 / (v / 4294967296) : Nat) (u32 % (v / 4294967296) : Nat)) ?_ ?_
  · show math_bits_Div64_p3' _ _ _ = _
    unfold math_bits_Div64_p3'
    rw [condF (by rw [decide_eq_false_iff_not]; omega), condF (by rw [decide_eq_false_iff_not]; omega), need_of (by omega), Option.bind_some, ws, wt, ey, eh, el, er, eo, e32, e32, iand_low (show v < _ by omega), iand_low (show l10 < _ by omega),
      condF (by rw [decide_eq_false_iff_not]; omega), condF (by rw [decide_eq_false_iff_not]; omega), condF (by rw [decide_eq_false_iff_not]; omega), condF (by rw [decide_eq_false_iff_not]; omega), condF (by rw [decide_eq_false_iff_not]; omega), tdiv_nat]
    have d1 := Nat.div_add_mod u32 (v / 4294967296)
    have d2 := Nat.div_le_self u32 (v / 4294967296)
    rw [Nat.mul_comm] at d1
    rw [wrap_low (n := u32 / (v / 4294967296)) (by omega), ← Int.natCast_mul]
    generalize u32 / (v / 4294967296) * (v / 4294967296) = z at *
    generalize u32 % (v / 4294967296) = z2 at *
    rw [wrap_low (n := z) (by omega), show (u32 : Int) - (z : Int) = (z2 : Int) from by omega, wrap_low (by omega)]
  · refine div17 hvv hv1 hv1' hm0 p1 hu1 ?_ _ _ (by rw [Nat.mul_comm]; exact Nat.div_add_mod _ _) (kn_first hv1 hvv p1 hu1 rfl (by omega)) (Nat.lt_trans (Nat.mod_lt _ hv1) hv1') first
    rw [st24_eq rfl hv0 (by omega) hv1]
    refine div24 hvv hv1 hv1' hm0 hm hu0 ?_ _ _ (by rw [Nat.mul_comm]; exact Nat.div_add_mod _ _) (kn_first hv1 hvv hm hu0 rfl (by omega)) (Nat.lt_trans (Nat.mod_lt _ hv1) hv1') first2
    unfold fin24
    rw [condF (by rw [decide_eq_false_iff_not]; omega), un_eq rfl hv0 (by omega), ← td.2, ishr_nat, Nat.min_eq_left hs64, Nat.mul_div_cancel _ p]
    have hq : (hi * 18446744073709551616 + lo) / y < 18446744073709551616 := by
      rw [Nat.div_lt_iff_lt_mul (by omega)]
      have : (hi + 1) * 18446744073709551616 ≤ y * 18446744073709551616 := Nat.mul_le_mul_right _ hhi
      omega
    have w : IntKind.wrap .u64 ((IntKind.wrap .u64 ((((u32 * 4294967296 + l10 / 4294967296) / v : Nat) : Int) * 4294967296)) + ((((u32 * 4294967296 + l10 / 4294967296) % v * 4294967296 + l10 % 4294967296) / v : Nat) : Int)) = (((hi * 18446744073709551616 + lo) / y : Nat) : Int) := by
      rw [td.1] at hq ⊢
      exact two_wrap hq
    rw [w]

/-- Div64, of what it may be asked. -/
theorem div64_spec {hi lo y : Nat} (hy : y < 18446744073709551616) (hlo : lo < 18446744073709551616) (hhi : hi < y) {h : AH} : ∃ h', go (.fn F.math_bits_Div64 [.int .u64 (hi : Int), .int .u64 (lo : Int), .int .u64 (y : Int)]) h = some (.tup [.int .u64 (((hi * 18446744073709551616 + lo) / y : Nat) : Int), .int .u64 (((hi * 18446744073709551616 + lo) % y : Nat) : Int)], h') ∧ Grow h h' := by
  obtain ⟨_, h', e, rfl, g⟩ := math_bits_Div64_run (div64_iter hy hlo hhi) (h := h)
  exact ⟨h', e, g⟩

end Go.Ab

/- math/bits: Div64 as a step that may fail. -/
set_option linter.unusedVariables false
set_option linter.unusedSimpArgs false
set_option maxRecDepth 10000
namespace Go.Ab
open Go.Proofs Go.Num

def div64P (h l d : Int) : Option (Int × Int) := if 0 ≤ l ∧ l < 18446744073709551616 ∧ 0 ≤ h ∧ h < d ∧ d < 18446744073709551616 then some ((h * 18446744073709551616 + l) / d, (h * 18446744073709551616 + l) % d) else none

theorem div64P_nat {hi lo y : Nat} (hy : y < 18446744073709551616) (hlo : lo < 18446744073709551616) (hhi : hi < y) : div64P (hi : Int) (lo : Int) (y : Int) = some ((((hi * 18446744073709551616 + lo) / y : Nat) : Int), (((hi * 18446744073709551616 + lo) % y : Nat) : Int)) := by
  unfold div64P
  rw [if_pos (by omega)]
  rfl

theorem div64P_spec {a b c : Int} {p : Int × Int} {h : AH} (q : div64P a b c = some p) : ∃ h', go (.fn F.math_bits_Div64 [.int .u64 a, .int .u64 b, .int .u64 c]) h = some (.tup [.int .u64 p.1, .int .u64 p.2], h') ∧ Grow h h' := by
  unfold div64P at q
  split at q
  · rename_i hc
    cases q
    obtain ⟨hi, rfl⟩ : ∃ x : Nat, a = (x : Int) := ⟨a.toNat, by omega⟩
    obtain ⟨lo, rfl⟩ : ∃ x : Nat, b = (x : Int) := ⟨b.toNat, by omega⟩
    obtain ⟨y, rfl⟩ : ∃ x : Nat, c = (x : Int) := ⟨c.toNat, by omega⟩
    exact div64_spec (by omega) (by omega) (by omega)
  · cases q

end Go.Ab

/- Layer 1: short, up, guess: printed by wip/tools/walk.py. -/
set_option linter.unusedVariables false
set_option linter.unusedSimpArgs false
set_option maxRecDepth 10000
namespace Go.Ab
open Go.Proofs Go.Num

inductive nat_short_St
  | fn (x1 : List Nat) (a2 : Int)
  | p4 (x1 : List Nat) (a2 : Int) (x3 : List Nat) (a4 : Int) (a5 : Int)

abbrev nat_short_Res := List Nat × Int

noncomputable def nat_short_fn' (x1 : List Nat) (a2 : Int) : Option (nat_short_St ⊕ nat_short_Res) :=
  (mkI (List.length x1 : Int) (List.length x1 : Int)).bind fun m3 => some (.inl (.p4 x1 a2 (List.replicate m3 0) 0 (IntKind.wrap .i64 ((List.length x1 : Int) - 1))))

noncomputable def nat_short_p4' (x1 : List Nat) (a2 : Int) (x3 : List Nat) (a4 : Int) (a5 : Int) : Option (nat_short_St ⊕ nat_short_Res) :=
  cond (decide (a5 ≥ 0)) ((atI x1 a5).bind fun y7 => (div64P a4 ((y7 : Int)) a2).bind fun p8 => (inI (List.length x3) a5).bind fun j9 => (u64P (p8.1)).bind fun w10 => some (.inl (.p4 x1 a2 (List.set x3 j9 w10) (p8.2) (IntKind.wrap .i64 (a5 - 1))))) (some (.inr (digs B (num B x3), a4)))

noncomputable def nat_short_step : nat_short_St → Option (nat_short_St ⊕ nat_short_Res)
  | .fn x1 a2 => nat_short_fn' x1 a2
  | .p4 x1 a2 x3 a4 a5 => nat_short_p4' x1 a2 x3 a4 a5

@[reducible] def nat_short_post (h0 : AH) (r : nat_short_Res) (v : AV) (h' : AH) : Prop := ∃ s1 : Sl, v = .tup [s1.v, .int .u64 r.2] ∧ Nats h' s1 r.1 ∧ Grow h0 h' ∧ Own h0 s1

def nat_short_At (r : nat_short_Res) : nat_short_St → Prop
  | .fn x1 a2 => ∀ {h : AH} {a1 : Sl}, Nats h a1 x1 → Runs (go (.fn F.nat_short [a1.v, .int .u64 a2]) h) (nat_short_post h r)
  | .p4 x1 a2 x3 a4 a5 => ∀ {h0 h : AH} {a1 : Sl} {a3 : Sl} {i3 : Nat}, Grow h0 h → Nats h a1 x1 → Vec h a3 i3 x3 → h0.blks.size ≤ i3 → Av a1 i3 x1 → Runs (go (.pt F.nat_short Td.nat_short_4 [(0, a1.v), (1, .int .u64 a2), (6, a3.v), (7, .int .u64 a4), (8, .int .i64 a5)]) h) (nat_short_post h0 r)

theorem nat_short_fn_walk {r : nat_short_Res} {o : nat_short_St ⊕ nat_short_Res} {x1 : List Nat} {a2 : Int} (e : nat_short_fn' x1 a2 = some o) (good : GoodS (nat_short_At r) r o) : nat_short_At r (.fn x1 a2) := by
  intro h a1 n1
  rw [u_nat_short]
  unfold nat_short_fn' at e
  rw [n1.len]
  obtain ⟨m3, q3, e⟩ := Option.bind_eq_some_iff.1 e
  refine Runs.mk q3 bytes_uint64 fun s3 H3 v3 g3 => ?_
  cases e
  exact good g3 (n1.grow g3) v3 (Nat.le_refl _) (Av.of_base n1 (Nat.le_refl _))

theorem nat_short_p4_walk {r : nat_short_Res} {o : nat_short_St ⊕ nat_short_Res} {x1 : List Nat} {a2 : Int} {x3 : List Nat} {a4 : Int} {a5 : Int} (e : nat_short_p4' x1 a2 x3 a4 a5 = some o) (good : GoodS (nat_short_At r) r o) : nat_short_At r (.p4 x1 a2 x3 a4 a5) := by
  intro h0 h a1 a3 i3 g0 n1 v3 hi3 av1_3
  rw [p_nat_short_4]
  unfold nat_short_p4' at e
  rw [n1.len]
  rw [v3.nats.len]
  refine Runs.cond (fun k6 => ?_) (fun k6 => ?_)
  · replace e := (condT k6).symm.trans e
    obtain ⟨y7, q7, e⟩ := Option.bind_eq_some_iff.1 e
    obtain ⟨r7, j7, l7⟩ := n1.atI q7
    refine Runs.step j7 ?_
    refine Runs.step (rdc l7 (avInt_int _ _)) ?_
    obtain ⟨p8, q8, e⟩ := Option.bind_eq_some_iff.1 e
    obtain ⟨H8, e8, g8⟩ := div64P_spec q8
    refine Runs.step e8 ?_
    refine Runs.step rfl ?_
    refine Runs.step (seen (avInt_int _ _)) ?_
    refine Runs.step (seen (avInt_int _ _)) ?_
    obtain ⟨j9, q9, e⟩ := Option.bind_eq_some_iff.1 e
    refine Runs.step ((v3.grow g8).idx rfl q9) ?_
    obtain ⟨w10, z10, e⟩ := Option.bind_eq_some_iff.1 e
    refine Runs.vput (v3.grow g8) rfl q9 z10 fun H10 v10 u10 => ?_
    have n1_10 := (n1.grow g8).upda av1_3 u10
    cases e
    exact good ((g0.trans g8).updr hi3 u10) n1_10 v10 hi3 av1_3
  · replace e := (condF k6).symm.trans e
    obtain ⟨s7, e7, n7, o7⟩ := nat_trim_spec v3.nats
    refine Runs.step e7 ?_
    refine Runs.step (seen (asSl_v _)) ?_
    cases e
    cases good
    exact Runs.ret ⟨s7, rfl, n7, g0, ((o7 _ (v3.own hi3)).of_le (Grow.refl _))⟩

theorem nat_short_run {s : nat_short_St} {r : nat_short_Res} (it : Iter nat_short_step s r) : nat_short_At r s := Iter.ind (fun s o e good => by
  cases s with
  | fn x1 a2 => exact @nat_short_fn_walk _ _ x1 a2 e good
  | p4 x1 a2 x3 a4 a5 => exact @nat_short_p4_walk _ _ x1 a2 x3 a4 a5 e good
  ) it

theorem nat_short_opt {h : AH} {a1 : Sl} {x1 : List Nat} {a2 : Int} (n1 : Nats h a1 x1) {r : nat_short_Res} (q : runP nat_short_step (.fn x1 a2) = some r) : Runs (go (.fn F.nat_short [a1.v, .int .u64 a2]) h) (nat_short_post h r) := nat_short_run (runP_iter q) n1

inductive nat_up_St
  | fn (x1 : List Nat) (a2 : Int)
  | p3 (a1 : Int) (x2 : List Nat) (x3 : List Nat) (a4 : Int) (a5 : Int)

abbrev nat_up_Res := List Nat

noncomputable def nat_up_fn' (x1 : List Nat) (a2 : Int) : Option (nat_up_St ⊕ nat_up_Res) :=
  (mkI (IntKind.wrap .i64 ((List.length x1 : Int) + 1)) (IntKind.wrap .i64 ((List.length x1 : Int) + 1))).bind fun m3 => some (.inl (.p3 a2 (List.replicate m3 0) x1 (List.length x1 : Int) 0))

noncomputable def nat_up_p3' (a1 : Int) (x2 : List Nat) (x3 : List Nat) (a4 : Int) (a5 : Int) : Option (nat_up_St ⊕ nat_up_Res) :=
  cond (decide (a5 < a4)) ((atI x3 a5).bind fun y7 => (inI (List.length x2) a5).bind fun j8 => cond (decide (a1 < 0)) (none) ((inI (List.length x2) a5).bind fun j10 => (u64P (ior .u64 (((List.getD x2 j8 0 : Nat) : Int)) (ishl .u64 ((y7 : Int)) a1))).bind fun w11 => cond (decide (a1 > 0)) (cond (decide ((IntKind.wrap .u64 (64 - a1)) < 0)) (none) ((inI (List.length x2) (IntKind.wrap .i64 (a5 + 1))).bind fun j14 => (u64P (ishr .u64 ((y7 : Int)) (IntKind.wrap .u64 (64 - a1)))).bind fun w15 => some (.inl (.p3 a1 (List.set (List.set x2 j10 w11) j14 w15) x3 a4 (IntKind.wrap .i64 (a5 + 1)))))) (some (.inl (.p3 a1 (List.set x2 j10 w11) x3 a4 (IntKind.wrap .i64 (a5 + 1))))))) (some (.inr x2))

noncomputable def nat_up_step : nat_up_St → Option (nat_up_St ⊕ nat_up_Res)
  | .fn x1 a2 => nat_up_fn' x1 a2
  | .p3 a1 x2 x3 a4 a5 => nat_up_p3' a1 x2 x3 a4 a5

@[reducible] def nat_up_post (h0 : AH) (r : nat_up_Res) (v : AV) (h' : AH) : Prop := ∃ s1 : Sl, ∃ j1 : Nat, v = s1.v ∧ Vec h' s1 j1 r ∧ Grow h0 h' ∧ h0.blks.size ≤ j1

def nat_up_At (r : nat_up_Res) : nat_up_St → Prop
  | .fn x1 a2 => ∀ {h : AH} {a1 : Sl}, Nats h a1 x1 → Runs (go (.fn F.nat_up [a1.v, .int .u64 a2]) h) (nat_up_post h r)
  | .p3 a1 x2 x3 a4 a5 => ∀ {h0 h : AH} {a2 : Sl} {a3 : Sl} {i2 : Nat}, Grow h0 h → Vec h a2 i2 x2 → Nats h a3 x3 → h0.blks.size ≤ i2 → Av a3 i2 x3 → Runs (go (.pt F.nat_up Td.nat_up_3 [(1, .int .u64 a1), (5, a2.v), (12, a3.v), (13, .int .i64 a4), (14, .int .i64 a5)]) h) (nat_up_post h0 r)

theorem nat_up_fn_walk {r : nat_up_Res} {o : nat_up_St ⊕ nat_up_Res} {x1 : List Nat} {a2 : Int} (e : nat_up_fn' x1 a2 = some o) (good : GoodS (nat_up_At r) r o) : nat_up_At r (.fn x1 a2) := by
  intro h a1 n1
  rw [u_nat_up]
  unfold nat_up_fn' at e
  rw [n1.len]
  obtain ⟨m3, q3, e⟩ := Option.bind_eq_some_iff.1 e
  refine Runs.mk q3 bytes_uint64 fun s3 H3 v3 g3 => ?_
  cases e
  exact good g3 v3 (n1.grow g3) (Nat.le_refl _) (Av.of_base n1 (Nat.le_refl _))

theorem nat_up_p3_walk {r : nat_up_Res} {o : nat_up_St ⊕ nat_up_Res} {a1 : Int} {x2 : List Nat} {x3 : List Nat} {a4 : Int} {a5 : Int} (e : nat_up_p3' a1 x2 x3 a4 a5 = some o) (good : GoodS (nat_up_At r) r o) : nat_up_At r (.p3 a1 x2 x3 a4 a5) := by
  intro h0 h a2 a3 i2 g0 v2 n3 hi2 av3_2
  rw [p_nat_up_3]
  unfold nat_up_p3' at e
  rw [v2.nats.len]
  rw [n3.len]
  refine Runs.cond (fun k6 => ?_) (fun k6 => ?_)
  · replace e := (condT k6).symm.trans e
    obtain ⟨y7, q7, e⟩ := Option.bind_eq_some_iff.1 e
    obtain ⟨r7, j7, l7⟩ := n3.atI q7
    refine Runs.step j7 ?_
    refine Runs.step (rdc l7 (avInt_int _ _)) ?_
    obtain ⟨j8, q8, e⟩ := Option.bind_eq_some_iff.1 e
    refine Runs.step (v2.idx rfl q8) ?_
    refine Runs.step (v2.rd rfl q8 (avInt_int _ _)) ?_
    refine Runs.cond (fun k9 => ?_) (fun k9 => ?_)
    · replace e := (condT k9).symm.trans e
      cases e
    · replace e := (condF k9).symm.trans e
      obtain ⟨j10, q10, e⟩ := Option.bind_eq_some_iff.1 e
      refine Runs.step (v2.idx rfl q10) ?_
      obtain ⟨w11, z11, e⟩ := Option.bind_eq_some_iff.1 e
      refine Runs.vput v2 rfl q10 z11 fun H11 v11 u11 => ?_
      have n3_11 := n3.upda av3_2 u11
      refine Runs.cond (fun k12 => ?_) (fun k12 => ?_)
      · replace e := (condT k12).symm.trans e
        refine Runs.cond (fun k13 => ?_) (fun k13 => ?_)
        · replace e := (condT k13).symm.trans e
          cases e
        · replace e := (condF k13).symm.trans e
          obtain ⟨j14, q14, e⟩ := Option.bind_eq_some_iff.1 e
          refine Runs.step (v11.idx (by simp only [List.length_set]) q14) ?_
          obtain ⟨w15, z15, e⟩ := Option.bind_eq_some_iff.1 e
          refine Runs.vput v11 (by simp only [List.length_set]) q14 z15 fun H15 v15 u15 => ?_
          have n3_15 := n3_11.upda av3_2 u15
          cases e
          exact good ((g0.updr hi2 u11).updr hi2 u15) v15 n3_15 hi2 av3_2
      · replace e := (condF k12).symm.trans e
        cases e
        exact good (g0.updr hi2 u11) v11 n3_11 hi2 av3_2
  · replace e := (condF k6).symm.trans e
    cases e
    cases good
    exact Runs.ret ⟨a2, i2, rfl, v2, g0, hi2⟩

theorem nat_up_run {s : nat_up_St} {r : nat_up_Res} (it : Iter nat_up_step s r) : nat_up_At r s := Iter.ind (fun s o e good => by
  cases s with
  | fn x1 a2 => exact @nat_up_fn_walk _ _ x1 a2 e good
  | p3 a1 x2 x3 a4 a5 => exact @nat_up_p3_walk _ _ a1 x2 x3 a4 a5 e good
  ) it

theorem nat_up_opt {h : AH} {a1 : Sl} {x1 : List Nat} {a2 : Int} (n1 : Nats h a1 x1) {r : nat_up_Res} (q : runP nat_up_step (.fn x1 a2) = some r) : Runs (go (.fn F.nat_up [a1.v, .int .u64 a2]) h) (nat_up_post h r) := nat_up_run (runP_iter q) n1

inductive nat_guess_St
  | fn (a1 : Int) (a2 : Int) (a3 : Int) (a4 : Int) (a5 : Int)
  | p4 (a1 : Int) (a2 : Int) (a3 : Int) (a4 : Int) (a5 : Int)

abbrev nat_guess_Res := Int

noncomputable def nat_guess_fn' (a1 : Int) (a2 : Int) (a3 : Int) (a4 : Int) (a5 : Int) : Option (nat_guess_St ⊕ nat_guess_Res) :=
  cond (decide (a1 ≥ a4)) (some (.inr 18446744073709551615)) ((div64P a1 a2 a4).bind fun p7 => some (.inl (.p4 a3 a4 a5 (p7.1) (p7.2))))

noncomputable def nat_guess_p4' (a1 : Int) (a2 : Int) (a3 : Int) (a4 : Int) (a5 : Int) : Option (nat_guess_St ⊕ nat_guess_Res) :=
  cond (decide (((mul64 a4 a3).1) < a5)) (some (.inr a4)) (cond (decide (((mul64 a4 a3).1) = a5)) (cond (decide (((mul64 a4 a3).2) ≤ a1)) (some (.inr a4)) (cond (decide ((IntKind.wrap .u64 (a5 + a2)) < a5)) (some (.inr (IntKind.wrap .u64 (a4 - 1)))) (some (.inl (.p4 a1 a2 a3 (IntKind.wrap .u64 (a4 - 1)) (IntKind.wrap .u64 (a5 + a2))))))) (cond (decide ((IntKind.wrap .u64 (a5 + a2)) < a5)) (some (.inr (IntKind.wrap .u64 (a4 - 1)))) (some (.inl (.p4 a1 a2 a3 (IntKind.wrap .u64 (a4 - 1)) (IntKind.wrap .u64 (a5 + a2)))))))

noncomputable def nat_guess_step : nat_guess_St → Option (nat_guess_St ⊕ nat_guess_Res)
  | .fn a1 a2 a3 a4 a5 => nat_guess_fn' a1 a2 a3 a4 a5
  | .p4 a1 a2 a3 a4 a5 => nat_guess_p4' a1 a2 a3 a4 a5

@[reducible] def nat_guess_post (h0 : AH) (r : nat_guess_Res) (v : AV) (h' : AH) : Prop := v = .int .u64 r ∧ Grow h0 h'

def nat_guess_At (r : nat_guess_Res) : nat_guess_St → Prop
  | .fn a1 a2 a3 a4 a5 => ∀ {h : AH}, Runs (go (.fn F.nat_guess [.int .u64 a1, .int .u64 a2, .int .u64 a3, .int .u64 a4, .int .u64 a5]) h) (nat_guess_post h r)
  | .p4 a1 a2 a3 a4 a5 => ∀ {h0 h : AH}, Grow h0 h → Runs (go (.pt F.nat_guess Td.nat_guess_4 [(2, .int .u64 a1), (3, .int .u64 a2), (4, .int .u64 a3), (11, .int .u64 a4), (12, .int .u64 a5)]) h) (nat_guess_post h0 r)

theorem nat_guess_fn_walk {r : nat_guess_Res} {o : nat_guess_St ⊕ nat_guess_Res} {a1 : Int} {a2 : Int} {a3 : Int} {a4 : Int} {a5 : Int} (e : nat_guess_fn' a1 a2 a3 a4 a5 = some o) (good : GoodS (nat_guess_At r) r o) : nat_guess_At r (.fn a1 a2 a3 a4 a5) := by
  intro h
  rw [u_nat_guess]
  unfold nat_guess_fn' at e
  refine Runs.cond (fun k6 => ?_) (fun k6 => ?_)
  · replace e := (condT k6).symm.trans e
    cases e
    cases good
    exact Runs.ret ⟨rfl, (Grow.refl _)⟩
  · replace e := (condF k6).symm.trans e
    obtain ⟨p7, q7, e⟩ := Option.bind_eq_some_iff.1 e
    obtain ⟨H7, e7, g7⟩ := div64P_spec q7
    refine Runs.step e7 ?_
    refine Runs.step rfl ?_
    refine Runs.step (seen (avInt_int _ _)) ?_
    refine Runs.step (seen (avInt_int _ _)) ?_
    cases e
    exact good g7

theorem nat_guess_p4_walk {r : nat_guess_Res} {o : nat_guess_St ⊕ nat_guess_Res} {a1 : Int} {a2 : Int} {a3 : Int} {a4 : Int} {a5 : Int} (e : nat_guess_p4' a1 a2 a3 a4 a5 = some o) (good : GoodS (nat_guess_At r) r o) : nat_guess_At r (.p4 a1 a2 a3 a4 a5) := by
  intro h0 h g0
  rw [p_nat_guess_4]
  unfold nat_guess_p4' at e
  refine Runs.step (math_bits_Mul64_spec a4 a3) ?_
  refine Runs.step rfl ?_
  refine Runs.step (seen (avInt_int _ _)) ?_
  refine Runs.step (seen (avInt_int _ _)) ?_
  refine Runs.cond (fun k7 => ?_) (fun k7 => ?_)
  · replace e := (condT k7).symm.trans e
    cases e
    cases good
    exact Runs.ret ⟨rfl, g0⟩
  · replace e := (condF k7).symm.trans e
    refine Runs.cond (fun k8 => ?_) (fun k8 => ?_)
    · replace e := (condT k8).symm.trans e
      refine Runs.cond (fun k9 => ?_) (fun k9 => ?_)
      · replace e := (condT k9).symm.trans e
        cases e
        cases good
        exact Runs.ret ⟨rfl, g0⟩
      · replace e := (condF k9).symm.trans e
        refine Runs.cond (fun k10 => ?_) (fun k10 => ?_)
        · replace e := (condT k10).symm.trans e
          cases e
          cases good
          exact Runs.ret ⟨rfl, g0⟩
        · replace e := (condF k10).symm.trans e
          cases e
          exact good g0
    · replace e := (condF k8).symm.trans e
      refine Runs.cond (fun k9 => ?_) (fun k9 => ?_)
      · replace e := (condT k9).symm.trans e
        cases e
        cases good
        exact Runs.ret ⟨rfl, g0⟩
      · replace e := (condF k9).symm.trans e
        cases e
        exact good g0

theorem nat_guess_run {s : nat_guess_St} {r : nat_guess_Res} (it : Iter nat_guess_step s r) : nat_guess_At r s := Iter.ind (fun s o e good => by
  cases s with
  | fn a1 a2 a3 a4 a5 => exact @nat_guess_fn_walk _ _ a1 a2 a3 a4 a5 e good
  | p4 a1 a2 a3 a4 a5 => exact @nat_guess_p4_walk _ _ a1 a2 a3 a4 a5 e good
  ) it

theorem nat_guess_opt {h : AH}  {a1 : Int} {a2 : Int} {a3 : Int} {a4 : Int} {a5 : Int}  {r : nat_guess_Res} (q : runP nat_guess_step (.fn a1 a2 a3 a4 a5) = some r) : Runs (go (.fn F.nat_guess [.int .u64 a1, .int .u64 a2, .int .u64 a3, .int .u64 a4, .int .u64 a5]) h) (nat_guess_post h r) := nat_guess_run (runP_iter q) 

end Go.Ab

/- Layer 1: small answers as functions. -/
set_option linter.unusedVariables false
set_option linter.unusedSimpArgs false
set_option maxRecDepth 10000
namespace Go.Ab
open Go.Proofs Go.Num

/-- k digits of n. -/
def padD (b : Nat) : Nat → Nat → List Nat
  | 0, _ => []
  | k + 1, n => n % b :: padD b k (n / b)

theorem padD_len (b : Nat) : ∀ k n, (padD b k n).length = k
  | 0, _ => rfl
  | k + 1, n => by simp [padD, padD_len b k]
theorem padD_lt {b : Nat} (hb : 0 < b) : ∀ k n, ∀ x ∈ padD b k n, x < b
  | 0, _ => by simp [padD]
  | k + 1, n => by
    intro x hx
    rcases List.mem_cons.1 hx with rfl | hx
    · exact Nat.mod_lt _ hb
    · exact padD_lt hb k _ x hx
theorem padD_num {b : Nat} (hb : 0 < b) : ∀ (k n : Nat), n < b ^ k → num b (padD b k n) = n
  | 0, n, h => by
    rw [Nat.pow_zero] at h
    have : n = 0 := by omega
    subst this
    rfl
  | k + 1, n, h => by
    rw [padD, num, padD_num hb k (n / b) (by rw [Nat.div_lt_iff_lt_mul hb, ← Nat.pow_succ]; exact h)]
    exact Nat.mod_add_div n b
theorem padD_of {b : Nat} (hb : 0 < b) : ∀ {zs : List Nat}, (∀ x ∈ zs, x < b) → padD b zs.length (num b zs) = zs
  | [], _ => rfl
  | z :: zs, h => by
    have hz := h z (by simp)
    rw [List.length_cons, padD, num, Nat.add_mul_mod_self_left, Nat.mod_eq_of_lt hz, Nat.add_mul_div_left _ _ hb, Nat.div_eq_of_lt hz, Nat.zero_add, padD_of hb fun x hx => h x (by simp [hx])]

theorem Sl.v_inj {s t : Sl} (e : s.v = t.v) : s = t := by
  cases s; cases t
  simp only [Sl.v, AV.slice.injEq] at e
  simp only [Sl.mk.injEq]
  exact e

theorem nat_trim_loop_in {h : AH} {s : Sl} {xs : List Nat} (n : Nats h s xs) {i : Nat} (b : InB s i) : ∀ (k : Nat), k ≤ xs.length → ∃ s', go (.pt F.nat_trim Td.nat_trim_2 [(0, s.v), (3, .int .i64 (k : Int))]) h = some (s'.v, h) ∧ InB s' i
  | 0, hk => by
    rw [p_nat_trim_2]
    obtain ⟨s', e1, _, _⟩ := n.cut (l := 0) (n := 0) (Nat.le_refl _) hk
    have b' := b.cut e1
    simp at e1
    simp only [Int.natCast_zero, gt_iff_lt, Int.lt_irrefl, decide_false, cond_false, e1, Option.bind_some]
    exact ⟨s', rfl, b'⟩
  | k + 1, hk => by
    rw [p_nat_trim_2]
    obtain ⟨r, e1, e2⟩ := n.at (i := k) (by omega)
    have hs := n.short
    rw [wrap_pred (by omega)]
    rw [show (decide (((k + 1 : Nat) : Int) > 0)) = true from by rw [decide_eq_true_eq]; omega]
    simp only [cond_true, e1, e2, Option.bind_some, avInt_int]
    by_cases hx : xs[k] = 0
    · rw [hx, show (decide (((0 : Nat) : Int) = 0)) = true from rfl, cond_true]
      exact nat_trim_loop_in n b k (by omega)
    · obtain ⟨s', e3, _, _⟩ := n.cut (l := 0) (n := k + 1) (by omega) hk
      rw [show (decide (((xs[k] : Nat) : Int) = 0)) = false from by rw [decide_eq_false_iff_not]; omega]
      simp only [cond_false]
      rw [show cutSl s 0 ((k + 1 : Nat) : Int) 1 = some s' from e3]
      exact ⟨s', rfl, b.cut e3⟩

theorem nat_trim_in {h : AH} {s : Sl} {i : Nat} {xs : List Nat} (v : Vec h s i xs) : ∃ s', go (.fn F.nat_trim [s.v]) h = some (s'.v, h) ∧ Nats h s' (digs B (num B xs)) ∧ InB s' i := by
  obtain ⟨s', e, n, _⟩ := nat_trim_spec v.nats
  obtain ⟨s2, e2, b⟩ := nat_trim_loop_in v.nats v.inB xs.length (Nat.le_refl _)
  rw [u_nat_trim, v.len, e2] at e
  have : s2 = s' := Sl.v_inj (Prod.mk.inj (Option.some.inj e)).1
  subst this
  exact ⟨s2, by rw [u_nat_trim, v.len, e2], n, b⟩

theorem B0 : 0 < B := by decide

theorem nat_Of_opt {a : Int} {x : Nat} {h : AH} (q : u64P a = some x) : ∃ (s' : Sl) (h' : AH), go (.fn F.nat_Of [.int .u64 a]) h = some (s'.v, h') ∧ Nats h' s' (digs B x) ∧ Grow h h' ∧ Own h s' := by
  obtain ⟨rfl, hx⟩ := u64P_some q
  exact nat_Of_spec hx

theorem nat_less_pad {h : AH} {s t : Sl} {xs ys : List Nat} (n : Nats h s xs) (m : Nats h t ys) (c : xs.length ≤ 1073741824 ∧ ys.length ≤ xs.length ∧ num B ys ≤ num B xs) :
    ∃ (s' : Sl) (h' : AH), go (.fn F.nat_less [s.v, t.v]) h = some (s'.v, h') ∧ Nats h' s' (padD B xs.length (num B xs - num B ys)) ∧ Grow h h' ∧ Own h s' := by
  obtain ⟨s', h', zs, e, n', g, o, v, l⟩ := nat_less_spec n m c.1 c.2.1 c.2.2
  refine ⟨s', h', e, ?_, g, o⟩
  rw [← v, ← l, padD_of B0 n'.lt]
  exact n'

end Go.Ab
