/- Layer 1: what the document's product answers. -/
import Derived.Test.YtddnmijnpieokaaS19
set_option linter.unusedVariables false
set_option linter.unusedSimpArgs false
set_option maxRecDepth 10000
namespace Go.Ab
open Go.Proofs Go.Num

theorem tmodD (n : Nat) : Int.tmod (n : Int) 65536 = ((n % 65536 : Nat) : Int) := rfl
theorem tdivD (n : Nat) : Int.tdiv (n : Int) 65536 = ((n / 65536 : Nat) : Int) := rfl

theorem wrap_low {n : Nat} (h : n < 18446744073709551616) : IntKind.wrap .u64 (n : Int) = (n : Int) := by
  rw [wrapU]
  omega

theorem mulD_row {xs ys : List Nat} {r : ref01_mul_Res} {i T : Nat} (lx : ∀ x ∈ xs, x < D) (ly : ∀ y ∈ ys, y < D) (hn : xs.length + ys.length ≤ 8796093022208) (hi : i < xs.length)
    (K : ∀ o : List Nat, o.length = xs.length + ys.length → (∀ y ∈ o, y < D) → Empty o (i + 1 + ys.length) → num D o = T + D ^ i * (xs[i] * num D ys) → Iter ref01_mul_step (.p3 xs ys o ((i + 1 : Nat) : Int)) r) :
    ∀ (d k : Nat), k + d = ys.length → ∀ (o : List Nat) (c : Nat), o.length = xs.length + ys.length → (∀ y ∈ o, y < D) → Empty o (i + ys.length) → c < D → Row D o i k c xs[i] ys T →
      Iter ref01_mul_step (.p7 xs ys o (i : Int) (c : Int) (k : Int)) r
  | 0, k, hk, o, c, lo, to, zo, hc, row => by
    have hk : k = ys.length := by omega
    subst hk
    have hj : i + ys.length < o.length := by omega
    have hc' : c < 65536 := hc
    refine .next ?_ (K (o.set (i + ys.length) c) (by simpa using lo) (set_lt to hc) ?_ ?_)
    · show ref01_mul_p7' _ _ _ _ _ _ = _
      unfold ref01_mul_p7'
      rw [condF (by rw [decide_eq_false_iff_not]; omega), ← Int.natCast_add, wrap_nat (by omega), inI_nat hj, Option.bind_some, u64P_nat (by omega), Option.bind_some, wrap_succ (by omega)]
    · rw [show i + 1 + ys.length = i + ys.length + 1 from by omega]
      intro j h1 h2
      rw [List.getElem_set_ne (by omega)]
      exact zo j (by simpa using h1) (by omega)
    · exact row.stop hj (zo _ hj (Nat.le_refl _))
  | d + 1, k, hk, o, c, lo, to, zo, hc, row => by
    have hk' : k < ys.length := by omega
    have hj : i + k < o.length := by omega
    have hx := lx xs[i] (List.getElem_mem _)
    have hy := ly ys[k] (List.getElem_mem _)
    have ho := to o[i + k] (List.getElem_mem _)
    have hc' := carry_lt hx hy ho hc
    have hl := Nat.mod_lt (xs[i] * ys[k] + o[i + k] + c) (show 0 < 65536 by omega)
    refine .next ?_ (mulD_row lx ly hn hi K d (k + 1) (by omega) (o.set (i + k) ((xs[i] * ys[k] + o[i + k] + c) % 65536)) ((xs[i] * ys[k] + o[i + k] + c) / 65536) (by simpa using lo) (set_lt to hl) (zo.set (by omega)) hc' (row.step hk' hj (Nat.div_add_mod' _ _).symm))
    · show ref01_mul_p7' _ _ _ _ _ _ = _
      unfold ref01_mul_p7'
      have hp : xs[i] * ys[k] ≤ 65535 * 65535 := Nat.mul_le_mul (by have : xs[i] < 65536 := hx; omega) (by have : ys[k] < 65536 := hy; omega)
      have ho' : o[i + k] < 65536 := ho
      have hc'' : c < 65536 := hc
      have e1 : IntKind.wrap .u64 (IntKind.wrap .u64 (((List.getD o (i + k) 0 : Nat) : Int) + IntKind.wrap .u64 ((xs[i] : Int) * (ys[k] : Int))) + (c : Int)) = ((xs[i] * ys[k] + o[i + k] + c : Nat) : Int) := by
        rw [show List.getD o (i + k) 0 = o[i + k] from getD_lt hj, ← Int.natCast_mul]
        generalize xs[i] * ys[k] = t at *
        generalize o[i + k] = w at *
        rw [wrap_low (n := t) (by omega), ← Int.natCast_add, wrap_low (by omega), ← Int.natCast_add, wrap_low (by omega)]
        omega
      rw [condT (by rw [decide_eq_true_eq]; omega), ← Int.natCast_add, wrap_nat (by omega), inI_nat hj, Option.bind_some, atI_nat hi, Option.bind_some, atI_nat hk', Option.bind_some, Option.bind_some, e1, tmodD, tdivD, u64P_nat (by omega), Option.bind_some, wrap_succ (by omega), wrap_low]
      have : (xs[i] * ys[k] + o[i + k] + c) / 65536 < 65536 := hc'
      omega

theorem mulD_rows {xs ys : List Nat} (lx : ∀ x ∈ xs, x < D) (ly : ∀ y ∈ ys, y < D) (hn : xs.length + ys.length ≤ 8796093022208) :
    ∀ (d i : Nat), i + d = xs.length → ∀ (o : List Nat), o.length = xs.length + ys.length → (∀ y ∈ o, y < D) → Empty o (i + ys.length) → num D o = num D (xs.take i) * num D ys →
      Iter ref01_mul_step (.p3 xs ys o (i : Int)) (digs D (num D xs * num D ys))
  | 0, i, hi, o, lo, to, zo, e => by
    have hi : i = xs.length := by omega
    subst hi
    rw [List.take_length] at e
    refine .done ?_
    show ref01_mul_p3' _ _ _ _ = _
    unfold ref01_mul_p3'
    rw [condF (by rw [decide_eq_false_iff_not]; omega), need_of to, Option.bind_some, e]
  | d + 1, i, hi, o, lo, to, zo, e => by
    have hi' : i < xs.length := by omega
    refine .next (s' := .p7 xs ys o (i : Int) ((0 : Nat) : Int) ((0 : Nat) : Int)) ?_
      (mulD_row (T := num D (xs.take i) * num D ys) lx ly hn hi' (fun o' l' t' z' e' => ?_) ys.length 0 (by omega) o 0 lo to zo (show 0 < 65536 by omega) (Row.start e))
    · show ref01_mul_p3' _ _ _ _ = _
      unfold ref01_mul_p3'
      rw [condT (by rw [decide_eq_true_eq]; omega)]
      rfl
    · refine mulD_rows lx ly hn d (i + 1) (by omega) o' l' t' z' ?_
      rw [e', rows_step hi' rfl]

theorem ref01_mul_iter {xs ys : List Nat} (lx : ∀ x ∈ xs, x < D) (ly : ∀ y ∈ ys, y < D) (hn : xs.length + ys.length ≤ 8796093022208) : Iter ref01_mul_step (.fn xs ys) (digs D (num D xs * num D ys)) := by
  have z : ∀ k, Empty (List.replicate (xs.length + ys.length) 0) k := fun k j hj _ => by simp
  refine .next (s' := .p3 xs ys (List.replicate (xs.length + ys.length) 0) ((0 : Nat) : Int)) ?_ (mulD_rows lx ly hn xs.length 0 (by omega) _ (by simp) ?_ (z _) ?_)
  · show ref01_mul_fn' _ _ = _
    unfold ref01_mul_fn'
    rw [← Int.natCast_add, wrap_nat (by omega), mkI_nat hn, Option.bind_some]
    rfl
  · intro y hy
    rw [List.eq_of_mem_replicate hy]
    exact show 0 < 65536 by omega
  · have := num_noughts D [] (xs.length + ys.length)
    simpa [num] using this

theorem ref01_mul_spec {h : AH} {s t : Sl} {xs ys : List Nat} (n : Nats h s xs) (m : Nats h t ys) (lx : ∀ x ∈ xs, x < D) (ly : ∀ y ∈ ys, y < D) (hn : xs.length + ys.length ≤ 8796093022208) : ∃ (s' : Sl) (h' : AH), go (.fn F.ref01_mul [s.v, t.v]) h = some (s'.v, h') ∧ Nats h' s' (digs D (num D xs * num D ys)) ∧ Grow h h' ∧ Own h s' := by
  obtain ⟨_, h', e, s', rfl, n', g, o⟩ := ref01_mul_run (ref01_mul_iter lx ly hn) n m
  exact ⟨s', h', e, n', g, o⟩

end Go.Ab
