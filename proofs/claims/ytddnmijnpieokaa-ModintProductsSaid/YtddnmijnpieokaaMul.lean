/- The product, digit by digit. Plain. -/
import Derived.Test.YtddnmijnpieokaaNum
set_option linter.unusedVariables false
namespace Go.Num

theorem num_set {b : Nat} : ∀ {xs : List Nat} {j : Nat} (h : j < xs.length) (w : Nat), num b (xs.set j w) + b ^ j * xs[j] = num b xs + b ^ j * w
  | x :: xs, 0, h, w => by simp only [List.set_cons_zero, num, List.getElem_cons_zero, Nat.pow_zero, Nat.one_mul]; omega
  | x :: xs, j + 1, h, w => by
    have h' : j < xs.length := by simpa using h
    have ih := num_set (b := b) (xs := xs) (j := j) h' w
    simp only [List.set_cons_succ, num, List.getElem_cons_succ]
    have e1 : b ^ (j + 1) * xs[j] = b * (b ^ j * xs[j]) := by rw [Nat.pow_succ, Nat.mul_comm (b ^ j) b, Nat.mul_assoc]
    have e2 : b ^ (j + 1) * w = b * (b ^ j * w) := by rw [Nat.pow_succ, Nat.mul_comm (b ^ j) b, Nat.mul_assoc]
    rw [e1, e2]
    have e3 := congrArg (b * ·) ih
    simp only [Nat.mul_add] at e3
    omega

/-- One digit more of a row: P is the digit's worth. -/
theorem row_alg {b P n n' o l c c' t T : Nat} (h1 : n' + P * o = n + P * l) (h2 : t + o + c = c' * b + l) (h3 : n + c * P = T) : n' + c' * (P * b) = T + P * t := by
  have e := congrArg (P * ·) h2
  simp only [Nat.mul_add] at e
  have e1 : P * (c' * b) = c' * (P * b) := by rw [Nat.mul_left_comm]
  have e2 : P * c = c * P := Nat.mul_comm _ _
  rw [e1, e2] at e
  omega

/-- The row of digit x at place i, up to its digit k: what stands in o, and what is carried. -/
def Row (b : Nat) (o : List Nat) (i k c x : Nat) (ys : List Nat) (T : Nat) : Prop := num b o + c * b ^ (i + k) = T + b ^ i * (x * num b (ys.take k))

theorem Row.start {b : Nat} {o : List Nat} {i x : Nat} {ys : List Nat} {T : Nat} (h : num b o = T) : Row b o i 0 0 x ys T := by
  unfold Row
  simp [num, h]

theorem Row.step {b : Nat} {o : List Nat} {i k c x : Nat} {ys : List Nat} {T c' l : Nat} (r : Row b o i k c x ys T) (hk : k < ys.length) (ho : i + k < o.length) (e : x * ys[k] + o[i + k] + c = c' * b + l) : Row b (o.set (i + k) l) i (k + 1) c' x ys T := by
  unfold Row at r ⊢
  have h1 := num_set (b := b) ho l
  have := row_alg h1 e r
  rw [show i + (k + 1) = i + k + 1 from rfl, Nat.pow_succ, this, num_take_succ b hk, Nat.mul_add, Nat.mul_add, Nat.pow_add]
  rw [Nat.mul_assoc (b ^ i) (b ^ k), Nat.mul_left_comm (b ^ k) x]
  omega

theorem Row.stop {b : Nat} {o : List Nat} {i c x : Nat} {ys : List Nat} {T : Nat} (r : Row b o i ys.length c x ys T) (ho : i + ys.length < o.length) (h0 : o[i + ys.length] = 0) : num b (o.set (i + ys.length) c) = T + b ^ i * (x * num b ys) := by
  unfold Row at r
  have h1 := num_set (b := b) ho c
  rw [h0, Nat.mul_zero, Nat.add_zero] at h1
  rw [h1, Nat.mul_comm, r, List.take_length]

theorem rows_step {b : Nat} {xs ys : List Nat} {i T : Nat} (hi : i < xs.length) (h : T = num b (xs.take i) * num b ys) : T + b ^ i * (xs[i] * num b ys) = num b (xs.take (i + 1)) * num b ys := by
  rw [num_take_succ b hi, Nat.add_mul, h, Nat.mul_assoc]

/-- The carry of a row is a digit. -/
theorem carry_lt {b x y o c : Nat} (hx : x < b) (hy : y < b) (ho : o < b) (hc : c < b) : (x * y + o + c) / b < b := by
  have hb : 0 < b := by omega
  rw [Nat.div_lt_iff_lt_mul hb]
  have h1 : x * y ≤ (b - 1) * (b - 1) := Nat.mul_le_mul (by omega) (by omega)
  obtain ⟨a, rfl⟩ : ∃ a, b = a + 1 := ⟨b - 1, by omega⟩
  simp only [Nat.add_sub_cancel] at h1
  have : (a + 1) * (a + 1) = a * a + 2 * a + 1 := by rw [Nat.add_mul, Nat.mul_add]; omega
  omega

end Go.Num
