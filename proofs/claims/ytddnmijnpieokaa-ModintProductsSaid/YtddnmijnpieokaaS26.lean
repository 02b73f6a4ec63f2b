/- Layer 3: the law of products. -/
import Derived.Test.YtddnmijnpieokaaS25
set_option linter.unusedVariables false
set_option linter.unusedSimpArgs false
set_option maxRecDepth 10000
namespace Go.Ab
open Go.Proofs Go.Num

theorem ModintProducts_true (p : Bool) (xs : List Nat) (q : Bool) (ys : List Nat) : law03_ModintProducts' p xs q ys = true := by
  unfold law03_ModintProducts'
  refine cond_elim (fun _ => rfl) fun _ => ?_
  simp only [cond_true, decide_true]
  have : modint_Mul' false [1] false [1] = (false, [1], 0) := by decide +kernel
  rw [this]
  rfl

theorem ModintProducts_law (h : AH) {x0 x1 : AV} (z0 : ArgV Pg h T.api_Int x0) (z1 : ArgV Pg h T.api_Int x1) : ∃ h', go (.fn F.law03_ModintProducts [x0, x1]) h = some (.bool true, h') := by
  obtain ⟨p, s, xs, rfl, n⟩ := apiInt_of_arg z0
  obtain ⟨q, t, ys, rfl, m⟩ := apiInt_of_arg z1
  obtain ⟨_, h', e, rfl, _⟩ := law03_ModintProducts_spec n m p q
  rw [ModintProducts_true] at e
  exact ⟨h', e⟩

end Go.Ab
