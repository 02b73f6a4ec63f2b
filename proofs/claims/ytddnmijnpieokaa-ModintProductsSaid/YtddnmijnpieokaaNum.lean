/- Numbers and their digits. Plain. -/
set_option linter.unusedVariables false
namespace Go.Num

/-- The number that digits tell, the lowest first. -/
def num (b : Nat) : List Nat → Nat
  | [] => 0
  | x :: xs => x + b * num b xs

/-- The digits of a number, the lowest first, none of them a nought behind. -/
def digs (b n : Nat) : List Nat := if h : b ≤ 1 ∨ n = 0 then [] else n % b :: digs b (n / b)
termination_by n
decreasing_by
  have : n ≠ 0 := fun e => h (.inr e)
  have : 1 < b := by omega
  exact Nat.div_lt_self (by omega) this

theorem digs_zero (b : Nat) : digs b 0 = [] := by rw [digs]; simp
theorem digs_pos {b n : Nat} (hb : 2 ≤ b) (hn : n ≠ 0) : digs b n = n % b :: digs b (n / b) := by
  rw [digs, dif_neg (by omega)]

theorem num_digs {b : Nat} (hb : 2 ≤ b) (n : Nat) : num b (digs b n) = n := by
  induction n using Nat.strongRecOn with
  | ind n ih =>
    by_cases hn : n = 0
    · subst hn; simp [digs_zero, num]
    · rw [digs_pos hb hn, num, ih _ (Nat.div_lt_self (by omega) hb), Nat.mod_add_div]

theorem digs_lt {b : Nat} (hb : 2 ≤ b) (n : Nat) : ∀ x ∈ digs b n, x < b := by
  induction n using Nat.strongRecOn with
  | ind n ih =>
    by_cases hn : n = 0
    · subst hn; simp [digs_zero]
    · rw [digs_pos hb hn]
      intro x hx
      rcases List.mem_cons.1 hx with rfl | hx
      · exact Nat.mod_lt _ (by omega)
      · exact ih _ (Nat.div_lt_self (by omega) hb) x hx

theorem num_append (b : Nat) (xs ys : List Nat) : num b (xs ++ ys) = num b xs + b ^ xs.length * num b ys := by
  induction xs with
  | nil => simp [num]
  | cons x xs ih =>
    simp only [List.cons_append, num, ih, List.length_cons, Nat.pow_succ, Nat.mul_add]
    rw [Nat.mul_comm (b ^ xs.length) b, Nat.mul_assoc]
    omega

theorem num_lt {b : Nat} (hb : 1 ≤ b) : ∀ {xs : List Nat}, (∀ x ∈ xs, x < b) → num b xs < b ^ xs.length
  | [], _ => by simp [num]
  | x :: xs, h => by
    have h1 := h x (by simp)
    have h2 := num_lt hb (xs := xs) fun y hy => h y (by simp [hy])
    simp only [num, List.length_cons, Nat.pow_succ]
    calc x + b * num b xs < b + b * num b xs := by omega
      _ = b * (num b xs + 1) := by rw [Nat.mul_add, Nat.mul_one, Nat.add_comm]
      _ ≤ b * b ^ xs.length := Nat.mul_le_mul_left _ h2
      _ = b ^ xs.length * b := Nat.mul_comm _ _

/-- No nought behind. -/
def Trim (xs : List Nat) : Prop := ∀ h : xs ≠ [], xs.getLast h ≠ 0

theorem Trim.tail {x : Nat} {xs : List Nat} (h : Trim (x :: xs)) : Trim xs := fun hx => by
  have := h (by simp)
  rwa [List.getLast_cons hx] at this

theorem num_zero {b : Nat} (hb : 1 ≤ b) : ∀ {xs : List Nat}, Trim xs → num b xs = 0 → xs = []
  | [], _, _ => rfl
  | x :: xs, ht, h => by
    simp only [num] at h
    have h1 : num b xs = 0 := by
      rcases Nat.eq_zero_or_pos (num b xs) with e | e
      · exact e
      · have : 0 < b * num b xs := Nat.mul_pos hb e
        omega
    have := num_zero hb ht.tail h1
    subst this
    have := ht (by simp)
    simp at this
    omega

theorem digs_num {b : Nat} (hb : 2 ≤ b) : ∀ {xs : List Nat}, (∀ x ∈ xs, x < b) → Trim xs → digs b (num b xs) = xs
  | [], _, _ => by simp [num, digs_zero]
  | x :: xs, h, ht => by
    have hx := h x (by simp)
    have hn : num b (x :: xs) ≠ 0 := fun e => by
      have := num_zero (by omega) ht e
      cases this
    rw [digs_pos hb hn]
    simp only [num]
    rw [Nat.add_mul_mod_self_left, Nat.mod_eq_of_lt hx, Nat.add_mul_div_left _ _ (by omega), Nat.div_eq_of_lt hx, Nat.zero_add,
      digs_num hb (fun y hy => h y (by simp [hy])) ht.tail]

theorem digs_trim {b : Nat} (hb : 2 ≤ b) (n : Nat) : Trim (digs b n) := by
  induction n using Nat.strongRecOn with
  | ind n ih =>
    by_cases hn : n = 0
    · subst hn; simp [digs_zero, Trim]
    · rw [digs_pos hb hn]
      intro _
      by_cases hd : digs b (n / b) = []
      · simp only [hd, List.getLast_singleton]
        have : n / b = 0 := by
          rcases Nat.eq_zero_or_pos (n / b) with e | e
          · exact e
          · rw [digs_pos hb (by omega)] at hd; cases hd
        have := Nat.mod_add_div n b
        rw [‹n / b = 0›] at this
        omega
      · rw [List.getLast_cons hd]
        exact ih _ (Nat.div_lt_self (by omega) hb) hd

theorem digs_len {b : Nat} (hb : 2 ≤ b) (n k : Nat) : (digs b n).length ≤ k ↔ n < b ^ k := by
  induction k generalizing n with
  | zero =>
    simp only [Nat.pow_zero, Nat.le_zero_eq]
    by_cases hn : n = 0
    · subst hn; simp [digs_zero]
    · rw [digs_pos hb hn]; simp; omega
  | succ k ih =>
    by_cases hn : n = 0
    · subst hn
      simp only [digs_zero, List.length_nil, Nat.zero_le, true_iff]
      exact Nat.pow_pos (by omega)
    · rw [digs_pos hb hn, List.length_cons, Nat.add_le_add_iff_right, ih, Nat.pow_succ, Nat.div_lt_iff_lt_mul (by omega)]

theorem digs_nil {b : Nat} (hb : 2 ≤ b) {n : Nat} : digs b n = [] ↔ n = 0 := by
  constructor
  · intro h
    have := num_digs hb n
    rw [h] at this
    simpa [num] using this.symm
  · rintro rfl; exact digs_zero b

theorem digs_inj {b : Nat} (hb : 2 ≤ b) {m n : Nat} (h : digs b m = digs b n) : m = n := by
  rw [← num_digs hb m, h, num_digs hb]

/-- Digits with noughts behind tell the same. -/
theorem num_noughts (b : Nat) (xs : List Nat) (k : Nat) : num b (xs ++ List.replicate k 0) = num b xs := by
  rw [num_append]
  have : num b (List.replicate k 0) = 0 := by
    induction k with
    | zero => rfl
    | succ k ih => simp [List.replicate_succ, num, ih]
  rw [this]
  omega

theorem num_take_zero {b : Nat} {xs : List Nat} {n : Nat} (h : ∀ i, n ≤ i → (hi : i < xs.length) → xs[i] = 0) : num b (xs.take n) = num b xs := by
  have e : xs = xs.take n ++ xs.drop n := (List.take_append_drop n xs).symm
  have e2 : xs.drop n = List.replicate (xs.length - n) 0 := by
    apply List.ext_getElem
    · simp
    · intro i h1 h2
      simp only [List.getElem_drop, List.getElem_replicate]
      exact h _ (by omega) _
  conv => rhs; rw [e, e2]
  rw [num_noughts]

/-- What is cut so is the digits of what it tells. -/
theorem take_digs {b : Nat} (hb : 2 ≤ b) {xs : List Nat} {n : Nat} (hx : ∀ x ∈ xs, x < b) (h : ∀ i, n ≤ i → (hi : i < xs.length) → xs[i] = 0) (hn : n ≤ xs.length) (ht : n = 0 ∨ ∃ h : n - 1 < xs.length, xs[n - 1] ≠ 0) :
    xs.take n = digs b (num b xs) := by
  rw [← num_take_zero h]
  symm
  refine digs_num hb (fun x hx' => hx x (List.mem_of_mem_take hx')) fun hne => ?_
  rcases ht with rfl | ⟨h1, h2⟩
  · simp at hne
  · have : (xs.take n).getLast hne = xs[n - 1] := by
      rw [List.getLast_eq_getElem]
      simp only [List.getElem_take, List.length_take]
      congr 1
      omega
    rw [this]
    exact h2

theorem num_le_len {b : Nat} (hb : 2 ≤ b) {xs ys : List Nat} (hx : ∀ x ∈ xs, x < b) (hy : ∀ x ∈ ys, x < b) (ty : Trim ys) (h : xs.length < ys.length) : num b xs < num b ys := by
  rw [← digs_num hb hy ty] at h
  rcases Nat.lt_or_ge (num b xs) (num b ys) with h1 | h1
  · exact h1
  · exfalso
    have h2 := num_lt (b := b) (by omega) hx
    have h3 := (digs_len hb (num b ys) xs.length).2 (by omega)
    omega

/-- -1, 0 or 1. -/
def cmp (a b : Nat) : Int := if a < b then -1 else if a = b then 0 else 1

theorem num_take_succ (b : Nat) {xs : List Nat} {k : Nat} (h : k < xs.length) : num b (xs.take (k + 1)) = num b (xs.take k) + b ^ k * xs[k] := by
  rw [List.take_succ_eq_append_getElem h, num_append]
  simp [num, Nat.min_eq_left (Nat.le_of_lt h)]

theorem cmp_top {b p q x y k : Nat} (hp : p < b ^ k) (hq : q < b ^ k) : cmp (p + b ^ k * x) (q + b ^ k * y) = if x < y then -1 else if x = y then cmp p q else 1 := by
  have key : ∀ {p q x y : Nat}, p < b ^ k → x < y → p + b ^ k * x < q + b ^ k * y := by
    intro p q x y hp hxy
    have : b ^ k * (x + 1) ≤ b ^ k * y := Nat.mul_le_mul_left _ hxy
    rw [Nat.mul_add, Nat.mul_one] at this
    omega
  unfold cmp
  rcases Nat.lt_trichotomy x y with h | h | h
  · have := key (q := q) hp h
    simp [h, this]
  · subst h
    simp
  · have := key (q := p) hq h
    rw [if_neg (by omega), if_neg (by omega), if_neg (by omega), if_neg (by omega)]

/-- A sum has one digit more at the most. -/
theorem digs_add_len {b : Nat} (hb : 2 ≤ b) (m n : Nat) : (digs b (m + n)).length ≤ max (digs b m).length (digs b n).length + 1 := by
  rw [digs_len hb]
  have h1 := (digs_len hb m _).1 (Nat.le_max_left (digs b m).length (digs b n).length)
  have h2 := (digs_len hb n _).1 (Nat.le_max_right (digs b m).length (digs b n).length)
  generalize max (digs b m).length (digs b n).length = k at h1 h2 ⊢
  rw [Nat.pow_succ]
  have : b ^ k * 2 ≤ b ^ k * b := Nat.mul_le_mul_left _ hb
  omega

/-- Each limb as so many digits. -/
theorem num_flat {b c : Nat} {f : Nat → List Nat} {k : Nat} (hc : c = b ^ k) {xs : List Nat} (hf : ∀ x ∈ xs, (f x).length = k ∧ num b (f x) = x) : num b (xs.flatMap f) = num c xs := by
  induction xs with
  | nil => rfl
  | cons x xs ih =>
    obtain ⟨h1, h2⟩ := hf x (by simp)
    rw [List.flatMap_cons, num_append, h1, h2, ih fun y hy => hf y (by simp [hy]), ← hc]
    rfl

/-- A limb's four digits. -/
def dig4 (x : Nat) : List Nat := [x % 65536, x / 65536 % 65536, x / 65536 / 65536 % 65536, x / 65536 / 65536 / 65536 % 65536]

theorem num_four {x : Nat} (h : x < 18446744073709551616) : (dig4 x).length = 4 ∧ num 65536 (dig4 x) = x := by
  refine ⟨rfl, ?_⟩
  simp only [dig4, num]
  omega

end Go.Num
