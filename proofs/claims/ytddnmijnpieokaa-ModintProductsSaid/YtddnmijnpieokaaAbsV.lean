/- Loops as pure machines; slices of limbs that are written. -/
import Derived.Test.YtddnmijnpieokaaAbsT
set_option linter.unusedVariables false
set_option maxRecDepth 10000
namespace Go.Ab

/-- A machine comes to an answer. -/
inductive Iter {S R : Type} (f : S → Option (S ⊕ R)) : S → R → Prop
  | done {s : S} {r : R} : f s = some (.inr r) → Iter f s r
  | next {s s' : S} {r : R} : f s = some (.inl s') → Iter f s' r → Iter f s r

/-- What is so where a machine goes on, or of what it answers. -/
def GoodS {S R : Type} (A : S → Prop) (r : R) : S ⊕ R → Prop
  | .inl s => A s
  | .inr r' => r' = r

theorem Iter.ind {S R : Type} {f : S → Option (S ⊕ R)} {A : S → Prop} {r : R} (H : ∀ s o, f s = some o → GoodS A r o → A s) {s : S} (it : Iter f s r) : A s := by
  induction it with
  | done e => exact H _ _ e rfl
  | next e _ ih => exact H _ _ e (ih H)

/-! ### Pure operations -/
def atI (xs : List Nat) (i : Int) : Option Nat := if 0 ≤ i then xs[i.toNat]? else none
def inI (n : Nat) (i : Int) : Option Nat := if 0 ≤ i ∧ i < (n : Int) then some i.toNat else none
def mkI (l c : Int) : Option Nat := if l = c ∧ 0 ≤ l ∧ l ≤ 8796093022208 then some l.toNat else none
def u64P (v : Int) : Option Nat := if 0 ≤ v ∧ v < 18446744073709551616 then some v.toNat else none
def add64P (x y c : Int) : Option (Int × Int) := if 0 ≤ x ∧ 0 ≤ y ∧ 0 ≤ c ∧ c ≤ 1 then some ((x + y + c) % 18446744073709551616, (x + y + c) / 18446744073709551616) else none
def sub64P (x y c : Int) : Option (Int × Int) := if 0 ≤ x ∧ 0 ≤ y ∧ y < 18446744073709551616 ∧ 0 ≤ c ∧ c ≤ 1 then some ((x - y - c) % 18446744073709551616, cond (decide (x < y + c)) 1 0) else none

/-- What a step asks for. -/
noncomputable def need (p : Prop) : Option (PLift p) := by
  classical
  exact if h : p then some ⟨h⟩ else none
theorem need_of {p : Prop} (h : p) : need p = some ⟨h⟩ := by
  unfold need
  rw [dif_pos h]

theorem atI_some {xs : List Nat} {i : Int} {y : Nat} (q : atI xs i = some y) : ∃ j : Nat, i = (j : Int) ∧ ∃ hj : j < xs.length, xs[j] = y := by
  unfold atI at q
  split at q
  · rename_i h
    obtain ⟨h1, h2⟩ := List.getElem?_eq_some_iff.1 q
    exact ⟨i.toNat, by omega, h1, h2⟩
  · cases q
theorem inI_some {n : Nat} {i : Int} {j : Nat} (q : inI n i = some j) : i = (j : Int) ∧ j < n := by
  unfold inI at q
  split at q
  · cases q
    omega
  · cases q
theorem mkI_some {l c : Int} {n : Nat} (q : mkI l c = some n) : l = (n : Int) ∧ c = (n : Int) ∧ n ≤ 8796093022208 := by
  unfold mkI at q
  split at q
  · cases q
    omega
  · cases q
theorem u64P_some {v : Int} {n : Nat} (q : u64P v = some n) : v = (n : Int) ∧ n < 18446744073709551616 := by
  unfold u64P at q
  split at q
  · cases q
    omega
  · cases q

theorem atI_nat {xs : List Nat} {i : Nat} (h : i < xs.length) : atI xs (i : Int) = some xs[i] := by
  unfold atI
  rw [if_pos (by omega), Int.toNat_natCast, List.getElem?_eq_getElem h]
theorem inI_nat {n i : Nat} (h : i < n) : inI n (i : Int) = some i := by
  unfold inI
  rw [if_pos (by omega), Int.toNat_natCast]
theorem mkI_nat {n : Nat} (h : n ≤ 8796093022208) : mkI (n : Int) (n : Int) = some n := by
  unfold mkI
  rw [if_pos (by omega), Int.toNat_natCast]
theorem u64P_nat {n : Nat} (h : n < 18446744073709551616) : u64P (n : Int) = some n := by
  unfold u64P
  rw [if_pos (by omega), Int.toNat_natCast]
theorem add64P_nat (x y : Nat) {c : Nat} (h : c ≤ 1) : add64P (x : Int) (y : Int) (c : Int) = some ((((x + y + c) % 18446744073709551616 : Nat) : Int), (((x + y + c) / 18446744073709551616 : Nat) : Int)) := by
  unfold add64P
  rw [if_pos (by omega)]
  rfl

theorem prim_add64 {x y c : Int} {p : Int × Int} {h : AH} {k1 k2 k3 : IntKind} (q : add64P x y c = some p) : ((prim "math/bits.Add64" [.int k1 x, .int k2 y, .int k3 c]).map fun v => (v, h)) = some (.tup [.int .u64 p.1, .int .u64 p.2], h) := by
  unfold add64P at q
  split at q
  · rename_i hc
    cases q
    show (cond (decide (0 ≤ x ∧ 0 ≤ y ∧ 0 ≤ c ∧ c ≤ 1)) (some (AV.tup [.int .u64 ((x + y + c) % 18446744073709551616), .int .u64 ((x + y + c) / 18446744073709551616)])) none).map _ = _
    rw [decide_eq_true hc]
    rfl
  · cases q
theorem prim_sub64 {x y c : Int} {p : Int × Int} {h : AH} {k1 k2 k3 : IntKind} (q : sub64P x y c = some p) : ((prim "math/bits.Sub64" [.int k1 x, .int k2 y, .int k3 c]).map fun v => (v, h)) = some (.tup [.int .u64 p.1, .int .u64 p.2], h) := by
  unfold sub64P at q
  split at q
  · rename_i hc
    cases q
    show (cond (decide (0 ≤ x ∧ 0 ≤ y ∧ y < 18446744073709551616 ∧ 0 ≤ c ∧ c ≤ 1)) (some (AV.tup [.int .u64 ((x - y - c) % 18446744073709551616), .int .u64 (cond (decide (x < y + c)) 1 0)])) none).map _ = _
    rw [decide_eq_true hc]
    rfl
  · cases q

theorem Nats.atI {h : AH} {s : Sl} {xs : List Nat} (n : Nats h s xs) {i : Int} {y : Nat} (q : Go.Ab.atI xs i = some y) : ∃ r, idx s.ref xs.length i 1 = some r ∧ h.cell r = some (.int .u64 (y : Int)) := by
  obtain ⟨j, rfl, hj, rfl⟩ := atI_some q
  rw [← n.len]
  exact n.at hj

theorem rdc {A : Type} {f : AV → Option A} {h : AH} {r : Ref} {v : AV} {x : A} (hc : h.cell r = some v) (hf : f v = some x) : (h.cell r).bind f = some x := by
  rw [hc]
  exact hf

/-! ### Slices of one's own that are written -/
structure Vec (h : AH) (s : Sl) (i : Nat) (xs : List Nat) : Prop where
  is : s = ⟨some (.new i 0), xs.length, .is xs.length⟩
  has : ∃ e, h.has i (xs.map u64) e
  lt : ∀ x ∈ xs, x < 18446744073709551616
  short : xs.length ≤ 9223372036854775807

theorem Vec.len {h : AH} {s : Sl} {i : Nat} {xs : List Nat} (v : Vec h s i xs) : s.len = xs.length := by rw [v.is]
theorem Vec.nats {h : AH} {s : Sl} {i : Nat} {xs : List Nat} (v : Vec h s i xs) : Nats h s xs := by
  obtain ⟨e, b⟩ := v.has
  rw [v.is]
  exact Nats.of_has b v.lt v.short
theorem Vec.inn {h : AH} {s : Sl} {i : Nat} {xs : List Nat} (v : Vec h s i xs) : i < h.blks.size := v.has.choose_spec.lt
theorem Vec.grow {h h' : AH} (g : Grow h h') {s : Sl} {i : Nat} {xs : List Nat} (v : Vec h s i xs) : Vec h' s i xs := ⟨v.is, v.has.imp fun _ b => g.has b, v.lt, v.short⟩
theorem Vec.updr {h h' : AH} {s : Sl} {i : Nat} {xs : List Nat} (v : Vec h s i xs) {j : Nat} (hij : i ≠ j) (u : Upd h h' j) : Vec h' s i xs := ⟨v.is, v.has.imp fun _ b => b.updr hij u, v.lt, v.short⟩
theorem Vec.own {h h0 : AH} {s : Sl} {i : Nat} {xs : List Nat} (v : Vec h s i xs) (hi : h0.blks.size ≤ i) : Own h0 s := fun r hr => by
  rw [v.is] at hr
  cases hr
  exact ⟨_, _, rfl, hi⟩

theorem Vec.idx {h : AH} {s : Sl} {i : Nat} {xs : List Nat} (v : Vec h s i xs) {k : Int} {j : Nat} (q : inI xs.length k = some j) : Go.Ab.idx s.ref xs.length k 1 = some (.new i j) := by
  obtain ⟨rfl, hj⟩ := inI_some q
  rw [v.is, idx_some _ _ _ _ (by omega) (by omega)]
  simp
theorem Vec.rd {A : Type} {f : AV → Option A} {h : AH} {s : Sl} {i : Nat} {xs : List Nat} (v : Vec h s i xs) {j : Nat} {k : Int} (q : inI xs.length k = some j) {x : A} (hf : f (.int .u64 ((xs.getD j 0 : Nat) : Int)) = some x) : (h.cell (.new i j)).bind f = some x := by
  obtain ⟨e, b⟩ := v.has
  have hj := (inI_some q).2
  rw [b.cell, List.getElem?_map, List.getElem?_eq_getElem hj]
  simpa [List.getD, hj] using hf

section
variable {P : AV → AH → Prop}
theorem Runs.vput {h : AH} {s : Sl} {i : Nat} {xs : List Nat} {j w : Nat} {k x : Int} {K : AH → Option (AV × AH)} (v : Vec h s i xs) (q : inI xs.length k = some j) (z : u64P x = some w)
    (H : ∀ h', Vec h' s i (xs.set j w) → Upd h h' i → Runs (K h') P) : Runs ((h.puts (.new i j) [.int .u64 x]).bind K) P := by
  obtain ⟨e, b⟩ := v.has
  have hj := (inI_some q).2
  obtain ⟨rfl, hw⟩ := u64P_some z
  rw [b.puts (by simp; omega)]
  have e1 : (xs.map u64).take j ++ [AV.int .u64 (w : Int)] ++ (xs.map u64).drop (j + [AV.int .u64 (w : Int)].length) = (xs.set j w).map u64 := by
    apply List.ext_getElem?
    intro t
    rw [List.map_set]
    simp only [List.length_singleton]
    rcases Nat.lt_trichotomy t j with ht | ht | ht
    · rw [List.append_assoc, List.getElem?_append_left (by simp; omega), List.getElem?_take, if_pos ht, List.getElem?_set_ne (by omega)]
    · subst ht
      rw [List.append_assoc, List.getElem?_append_right (by simp; omega), List.getElem?_set_self (by simp; omega)]
      simp [Nat.min_eq_left (Nat.le_of_lt hj)]
    · rw [List.getElem?_append_right (by simp; omega), List.getElem?_drop, List.getElem?_set_ne (by omega)]
      have : j + 1 + (t - (List.take j (xs.map u64) ++ [AV.int .u64 (w : Int)]).length) = t := by
        rw [List.length_append, List.length_take, List.length_map, List.length_singleton]
        omega
      rw [this]
  rw [e1]
  refine H _ ⟨?_, ⟨e, AH.has_upd b _ _⟩, ?_, ?_⟩ (AH.upd_Upd h i _ e)
  · rw [List.length_set]; exact v.is
  · intro y hy
    rcases List.mem_or_eq_of_mem_set hy with h1 | h1
    · exact v.lt y h1
    · rw [h1]; exact hw
  · rw [List.length_set]; exact v.short

theorem Runs.mk {h : AH} {l c : Int} {elem : TypeId} {bytes n : Nat} {K : Sl × AH → Option (AV × AH)} (q : mkI l c = some n) (hb : bytes = 8)
    (H : ∀ s h', Vec h' s h.blks.size (List.replicate n 0) → Grow h h' → Runs (K (s, h')) P) : Runs ((makeSliceH l c elem bytes [.int .u64 0] h).bind K) P := by
  obtain ⟨h1, h2, h3⟩ := mkI_some q
  subst hb
  rw [makeSliceH_of h1 h2 (by omega) (by omega), repC_one]
  refine H _ _ ⟨?_, ⟨elem, ?_⟩, ?_, ?_⟩ (Grow.push h _)
  · simp
  · have := AH.has_push h (List.replicate n (AV.int .u64 0)) elem
    rw [List.map_replicate]
    exact this
  · intro x hx
    rw [List.eq_of_mem_replicate hx]
    omega
  · simp; omega
end

/-! ### What does not lie in a block -/
def Av (s : Sl) (i : Nat) (xs : List Nat) : Prop := xs = [] ∨ ∀ o, s.ref ≠ some (.new i o)

theorem Av.of_base {h0 : AH} {s : Sl} {xs : List Nat} (n : Nats h0 s xs) {i : Nat} (hi : h0.blks.size ≤ i) : Av s i xs := by
  by_cases hx : xs = []
  · exact .inl hx
  · right
    intro o ho
    have hl : 0 < xs.length := by cases xs; exact absurd rfl hx; simp
    obtain ⟨r, e1, e2⟩ := n.cells.get 0 _ (by rw [List.getElem?_map, List.getElem?_eq_getElem hl]; rfl)
    rw [ho] at e1
    cases e1
    have := AH.cell_inn e2
    simp only [Ref.add_new, Ref.inn] at this
    omega
theorem Av.of_own {h1 : AH} {s : Sl} {xs : List Nat} (o : Own h1 s) {i : Nat} (hi : i < h1.blks.size) : Av s i xs := .inr fun k hk => by
  obtain ⟨j, k', e, hj⟩ := o _ hk
  cases e
  omega
theorem Av.of_vec {h : AH} {s : Sl} {j : Nat} {xs : List Nat} (v : Vec h s j xs) {i : Nat} (hij : j ≠ i) : Av s i xs := .inr fun k hk => by
  rw [v.is] at hk
  cases hk
  exact hij rfl
theorem Av.nil (s : Sl) (i : Nat) : Av s i [] := .inl rfl

theorem Nats.upda {h1 h2 : AH} {s : Sl} {xs : List Nat} (c : Nats h1 s xs) {i : Nat} (av : Av s i xs) (u : Upd h1 h2 i) : Nats h2 s xs :=
  ⟨⟨c.cells.fit, c.cells.len, fun k v hv => by
    obtain ⟨r, e1, e2⟩ := c.cells.get k v hv
    refine ⟨r, e1, u.cell e2 fun o' he => ?_⟩
    rcases av with rfl | av
    · simp at hv
    · cases r with
      | old a => cases he
      | new j o =>
        simp only [Ref.add_new, Ref.new.injEq] at he
        exact av o (by rw [e1, he.1])⟩, c.lt, c.short⟩

end Go.Ab
