/- Layers 1 and 3: limbs, whole numbers: what the small functions answer. -/
import Derived.Test.YtddnmijnpieokaaU1
import Derived.Test.YtddnmijnpieokaaAbsS
import Derived.Test.YtddnmijnpieokaaNum
set_option linter.unusedVariables false
set_option linter.unusedSimpArgs false
set_option maxRecDepth 10000
namespace Go.Ab
open Go.Proofs Go.Num

@[reducible] def B : Nat := 18446744073709551616
theorem B2 : 2 ≤ B := by decide

/-- May these limbs be a number? -/
def rt (xs : List Nat) : Bool := decide (xs.length ≤ 64) && (decide (xs.length = 0) || !decide (xs.getD (xs.length - 1) 0 = 0))

theorem getD_lt {xs : List Nat} {i : Nat} (h : i < xs.length) : xs.getD i 0 = xs[i] := by simp [List.getD, h]

theorem rt_iff {xs : List Nat} : rt xs = true ↔ xs.length ≤ 64 ∧ Trim xs := by
  unfold rt Trim
  simp only [Bool.and_eq_true, decide_eq_true_eq, Bool.or_eq_true, Bool.not_eq_true', decide_eq_false_iff_not, List.length_eq_zero_iff]
  refine and_congr_right fun _ => ?_
  constructor
  · rintro (h | h) hne
    · exact absurd h hne
    · rwa [List.getLast_eq_getElem, ← getD_lt]
  · intro h
    by_cases he : xs = []
    · exact .inl he
    · right
      have := h he
      rwa [List.getLast_eq_getElem, ← getD_lt] at this

theorem Nats.last {h : AH} {s : Sl} {xs : List Nat} (n : Nats h s xs) (hx : xs.length ≠ 0) : ∃ r, idx s.ref s.len (IntKind.wrap .i64 ((s.len : Int) - 1)) 1 = some r ∧ h.cell r = some (.int .u64 ((xs.getD (xs.length - 1) 0 : Nat) : Int)) := by
  obtain ⟨k, hk⟩ : ∃ k, xs.length = k + 1 := ⟨xs.length - 1, by omega⟩
  have hs := n.short
  obtain ⟨r, e1, e2⟩ := n.at (i := k) (by omega)
  rw [n.len, hk] at e1 ⊢
  rw [wrap_pred (by omega)]
  refine ⟨r, e1, ?_⟩
  rw [e2, show k + 1 - 1 = k from rfl, getD_lt (by omega)]

theorem nat_Right_spec {h : AH} {s : Sl} {xs : List Nat} (n : Nats h s xs) : go (.fn F.nat_Right [s.v]) h = some (.bool (rt xs), h) := by
  rw [u_nat_Right]
  have hl := n.len
  refine cond_elim (fun h1 => ?_) (fun h1 => ?_)
  · have h1 : xs.length ≤ 64 := by rw [decide_eq_true_eq] at h1; omega
    refine cond_elim (fun h2 => ?_) (fun h2 => ?_)
    · have h2 : xs.length = 0 := by rw [decide_eq_true_eq] at h2; omega
      simp [rt, h2]
    · have h2 : xs.length ≠ 0 := by rw [decide_eq_false_iff_not] at h2; omega
      obtain ⟨r, e1, e2⟩ := n.last h2
      simp [e1, e2, rt, h1]
      cases xs
      · simp at h2
      · simp
  · have h1 : ¬ xs.length ≤ 64 := by rw [decide_eq_false_iff_not] at h1; omega
    simp [rt, h1]

theorem ref01_Right_spec {h : AH} {s : Sl} {xs : List Nat} (n : Nats h s xs) : go (.fn F.ref01_Right [s.v]) h = some (.bool (rt xs), h) := by
  rw [u_ref01_Right]
  have hl := n.len
  refine cond_elim (fun h1 => ?_) (fun h1 => ?_)
  · have h1 : xs.length ≤ 64 := by rw [decide_eq_true_eq] at h1; omega
    refine cond_elim (fun h2 => ?_) (fun h2 => ?_)
    · have h2 : xs.length = 0 := by rw [decide_eq_true_eq] at h2; omega
      simp [rt, h2]
    · have h2 : xs.length ≠ 0 := by rw [decide_eq_false_iff_not] at h2; omega
      obtain ⟨r, e1, e2⟩ := n.last h2
      simp [e1, e2, rt, h1]
      cases xs
      · simp at h2
      · simp
  · have h1 : ¬ xs.length ≤ 64 := by rw [decide_eq_false_iff_not] at h1; omega
    simp [rt, h1]

/-- The loop that takes noughts away: it stops at a place. -/
theorem nat_trim_loop {h : AH} {s : Sl} {xs : List Nat} (n : Nats h s xs) : ∀ (k : Nat), k ≤ xs.length → (∀ i, k ≤ i → (hi : i < xs.length) → xs[i] = 0) →
    ∃ s', go (.pt F.nat_trim Td.nat_trim_2 [(0, s.v), (3, .int .i64 (k : Int))]) h = some (s'.v, h) ∧ Nats h s' (digs B (num B xs)) ∧ ∀ h0, Own h0 s → Own h0 s'
  | 0, hk, hz => by
    rw [p_nat_trim_2]
    obtain ⟨s', e1, e2, e3⟩ := n.cut (l := 0) (n := 0) (Nat.le_refl _) hk
    have := take_digs B2 n.lt hz hk (.inl rfl)
    simp at e1
    simp only [Int.natCast_zero, gt_iff_lt, Int.lt_irrefl, decide_false, cond_false, e1, Option.bind_some]
    refine ⟨s', rfl, ?_, e3⟩
    rw [← this]
    simpa using e2
  | k + 1, hk, hz => by
    rw [p_nat_trim_2]
    obtain ⟨r, e1, e2⟩ := n.at (i := k) (by omega)
    have hs := n.short
    rw [wrap_pred (by omega)]
    rw [show (decide (((k + 1 : Nat) : Int) > 0)) = true from by rw [decide_eq_true_eq]; omega]
    simp only [cond_true, e1, e2, Option.bind_some, avInt_int]
    by_cases hx : xs[k] = 0
    · rw [hx, show (decide (((0 : Nat) : Int) = 0)) = true from rfl, cond_true]
      refine nat_trim_loop n k (by omega) fun i hi hil => ?_
      rcases Nat.lt_or_ge k i with h1 | h1
      · exact hz i (by omega) hil
      · have : i = k := by omega
        subst this
        exact hx
    · obtain ⟨s', e3, e4, e5⟩ := n.cut (l := 0) (n := k + 1) (by omega) hk
      have ht := take_digs B2 n.lt hz hk (.inr ⟨by omega, by simpa using hx⟩)
      rw [show (decide (((xs[k] : Nat) : Int) = 0)) = false from by rw [decide_eq_false_iff_not]; omega]
      simp only [cond_false]
      rw [show cutSl s 0 ((k + 1 : Nat) : Int) 1 = some s' from e3]
      refine ⟨s', rfl, ?_, e5⟩
      rw [← ht]
      simpa using e4

theorem nat_trim_spec {h : AH} {s : Sl} {xs : List Nat} (n : Nats h s xs) : ∃ s', go (.fn F.nat_trim [s.v]) h = some (s'.v, h) ∧ Nats h s' (digs B (num B xs)) ∧ ∀ h0, Own h0 s → Own h0 s' := by
  rw [u_nat_trim, n.len]
  exact nat_trim_loop n xs.length (Nat.le_refl _) fun i h1 h2 => by omega

end Go.Ab
