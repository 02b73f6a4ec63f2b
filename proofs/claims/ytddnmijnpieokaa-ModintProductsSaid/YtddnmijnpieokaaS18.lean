/- Layer 1: what the school product answers. -/
import Derived.Test.YtddnmijnpieokaaS17
import Derived.Test.YtddnmijnpieokaaMul
set_option linter.unusedVariables false
set_option linter.unusedSimpArgs false
set_option maxRecDepth 10000
namespace Go.Ab
open Go.Proofs Go.Num

theorem carry_eq {t o c : Nat} (ho : o < 18446744073709551616) (hc : c < 18446744073709551616) (h : (t + o + c) / 18446744073709551616 < 18446744073709551616) :
    ((t % 18446744073709551616 + o + 0) % 18446744073709551616 + c + 0) % 18446744073709551616 = (t + o + c) % 18446744073709551616 ∧
    IntKind.wrap .u64 (IntKind.wrap .u64 (((t / 18446744073709551616 : Nat) : Int) + (((t % 18446744073709551616 + o + 0) / 18446744073709551616 : Nat) : Int)) + ((((t % 18446744073709551616 + o + 0) % 18446744073709551616 + c + 0) / 18446744073709551616 : Nat) : Int)) = (((t + o + c) / 18446744073709551616 : Nat) : Int) := by
  rw [wrapU, wrapU]
  omega

/-- Nothing stands from place k on. -/
def Empty (o : List Nat) (k : Nat) : Prop := ∀ j (h : j < o.length), k ≤ j → o[j] = 0

theorem Empty.set {o : List Nat} {k j w : Nat} (z : Empty o k) (hj : j < k) : Empty (o.set j w) k := fun t ht hk => by
  rw [List.getElem_set_ne (by omega)]
  exact z t (by simpa using ht) hk

theorem Empty.succ {o : List Nat} {k : Nat} (z : Empty o k) : Empty o (k + 1) := fun t ht hk => z t ht (by omega)

theorem set_lt {b : Nat} {o : List Nat} {j w : Nat} (h : ∀ x ∈ o, x < b) (hw : w < b) : ∀ x ∈ o.set j w, x < b := fun x hx => by
  rcases List.mem_or_eq_of_mem_set hx with h1 | h1
  · exact h x h1
  · rw [h1]; exact hw

theorem school_row {xs ys : List Nat} {r : nat_school_Res} {i x T : Nat} (hx : x < B) (ly : ∀ y ∈ ys, y < B) (hn : xs.length + ys.length ≤ 8796093022208) (hi : i < xs.length)
    (K : ∀ o : List Nat, o.length = xs.length + ys.length → (∀ y ∈ o, y < B) → Empty o (i + 1 + ys.length) → num B o = T + B ^ i * (x * num B ys) → Iter nat_school_step (.p3 ys o xs (xs.length : Int) ((i + 1 : Nat) : Int)) r) :
    ∀ (d k : Nat), k + d = ys.length → ∀ (o : List Nat) (c : Nat), o.length = xs.length + ys.length → (∀ y ∈ o, y < B) → Empty o (i + ys.length) → c < B → Row B o i k c x ys T →
      Iter nat_school_step (.p7 ys o (i : Int) (x : Int) (c : Int) xs (xs.length : Int) (i : Int) ys (ys.length : Int) (k : Int)) r
  | 0, k, hk, o, c, lo, to, zo, hc, row => by
    have hk : k = ys.length := by omega
    subst hk
    have hj : i + ys.length < o.length := by omega
    refine .next ?_ (K (o.set (i + ys.length) c) (by simpa using lo) (set_lt to hc) ?_ ?_)
    · show nat_school_p7' _ _ _ _ _ _ _ _ _ _ _ = _
      unfold nat_school_p7'
      rw [condF (by rw [decide_eq_false_iff_not]; omega), ← Int.natCast_add, wrap_nat (by omega), inI_nat hj, Option.bind_some, u64P_nat hc, Option.bind_some, wrap_succ (by omega)]
    · rw [show i + 1 + ys.length = i + ys.length + 1 from by omega]
      intro j h1 h2
      rw [List.getElem_set_ne (by omega)]
      exact zo j (by simpa using h1) (by omega)
    · exact row.stop hj (zo _ hj (Nat.le_refl _))
  | d + 1, k, hk, o, c, lo, to, zo, hc, row => by
    have hk' : k < ys.length := by omega
    have hj : i + k < o.length := by omega
    have hy := ly ys[k] (List.getElem_mem _)
    have ho := to o[i + k] (List.getElem_mem _)
    have hc' := carry_lt hx hy ho hc
    obtain ⟨c1, c2⟩ := carry_eq ho hc hc'
    have hl := Nat.mod_lt (x * ys[k] + o[i + k] + c) (show 0 < 18446744073709551616 by omega)
    refine .next ?_ (school_row hx ly hn hi K d (k + 1) (by omega) (o.set (i + k) ((x * ys[k] + o[i + k] + c) % 18446744073709551616)) ((x * ys[k] + o[i + k] + c) / 18446744073709551616) (by simpa using lo) (set_lt to hl) (zo.set (by omega)) hc' (row.step hk' hj (Nat.div_add_mod' _ _).symm))
    · show nat_school_p7' _ _ _ _ _ _ _ _ _ _ _ = _
      unfold nat_school_p7'
      rw [condT (by rw [decide_eq_true_eq]; omega), atI_nat hk', Option.bind_some, ← Int.natCast_add, wrap_nat (by omega), inI_nat hj, Option.bind_some, mul64_eq hx hy]
      dsimp only
      rw [show List.getD o (i + k) 0 = o[i + k] from getD_lt hj]
      have a1 := add64P_nat (x * ys[k] % B) o[i + k] (c := 0) (by omega)
      have a2 := add64P_nat ((x * ys[k] % B + o[i + k] + 0) % 18446744073709551616) c (c := 0) (by omega)
      rw [show ((0 : Nat) : Int) = 0 from rfl] at a1 a2
      rw [a1, Option.bind_some]
      dsimp only
      rw [a2, Option.bind_some, Option.bind_some]
      dsimp only
      rw [c1, c2, u64P_nat hl, Option.bind_some, wrap_succ (by omega)]

theorem school_rows {xs ys : List Nat} (lx : ∀ x ∈ xs, x < B) (ly : ∀ y ∈ ys, y < B) (hn : xs.length + ys.length ≤ 8796093022208) :
    ∀ (d i : Nat), i + d = xs.length → ∀ (o : List Nat), o.length = xs.length + ys.length → (∀ y ∈ o, y < B) → Empty o (i + ys.length) → num B o = num B (xs.take i) * num B ys →
      Iter nat_school_step (.p3 ys o xs (xs.length : Int) (i : Int)) (digs B (num B xs * num B ys))
  | 0, i, hi, o, lo, to, zo, e => by
    have hi : i = xs.length := by omega
    subst hi
    rw [List.take_length] at e
    refine .done ?_
    show nat_school_p3' _ _ _ _ _ = _
    unfold nat_school_p3'
    rw [condF (by rw [decide_eq_false_iff_not]; omega), e]
  | d + 1, i, hi, o, lo, to, zo, e => by
    have hi' : i < xs.length := by omega
    refine .next (s' := .p7 ys o (i : Int) (xs[i] : Int) ((0 : Nat) : Int) xs (xs.length : Int) (i : Int) ys (ys.length : Int) ((0 : Nat) : Int)) ?_
      (school_row (T := num B (xs.take i) * num B ys) (lx _ (List.getElem_mem _)) ly hn hi' (fun o' l' t' z' e' => ?_) ys.length 0 (by omega) o 0 lo to zo (show 0 < 18446744073709551616 by omega) (Row.start e))
    · show nat_school_p3' _ _ _ _ _ = _
      unfold nat_school_p3'
      rw [condT (by rw [decide_eq_true_eq]; omega), atI_nat hi', Option.bind_some]
      rfl
    · refine school_rows lx ly hn d (i + 1) (by omega) o' l' t' z' ?_
      rw [e', rows_step hi' rfl]

theorem nat_school_iter {xs ys : List Nat} (lx : ∀ x ∈ xs, x < B) (ly : ∀ y ∈ ys, y < B) (hn : xs.length + ys.length ≤ 8796093022208) : Iter nat_school_step (.fn xs ys) (digs B (num B xs * num B ys)) := by
  have z : ∀ k, Empty (List.replicate (xs.length + ys.length) 0) k := fun k j hj _ => by simp
  refine .next (s' := .p3 ys (List.replicate (xs.length + ys.length) 0) xs (xs.length : Int) ((0 : Nat) : Int)) ?_ (school_rows lx ly hn xs.length 0 (by omega) _ (by simp) ?_ (z _) ?_)
  · show nat_school_fn' _ _ = _
    unfold nat_school_fn'
    rw [← Int.natCast_add, wrap_nat (by omega), mkI_nat hn, Option.bind_some]
    rfl
  · intro y hy
    rw [List.eq_of_mem_replicate hy]
    exact show 0 < 18446744073709551616 by omega
  · have := num_noughts B [] (xs.length + ys.length)
    simpa [num] using this

theorem nat_school_spec {h : AH} {s t : Sl} {xs ys : List Nat} (n : Nats h s xs) (m : Nats h t ys) (hn : xs.length + ys.length ≤ 8796093022208) : ∃ (s' : Sl) (h' : AH), go (.fn F.nat_school [s.v, t.v]) h = some (s'.v, h') ∧ Nats h' s' (digs B (num B xs * num B ys)) ∧ Grow h h' ∧ Own h s' := by
  obtain ⟨_, h', e, s', rfl, n', g, o⟩ := nat_school_run (nat_school_iter n.lt m.lt hn) n m
  exact ⟨s', h', e, n', g, o⟩

end Go.Ab
