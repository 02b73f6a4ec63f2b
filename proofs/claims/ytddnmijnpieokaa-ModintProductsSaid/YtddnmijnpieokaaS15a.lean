/- Layers 1 and 3: two in a new block. -/
import Derived.Test.YtddnmijnpieokaaS14
import Derived.Test.YtddnmijnpieokaaAbsV
set_option linter.unusedVariables false
set_option linter.unusedSimpArgs false
set_option maxRecDepth 10000
namespace Go.Ab
open Go.Proofs Go.Num

theorem few2_spec {h : AH} {i : Nat} {a b : Sl} {xs ys : List Nat} (c : h.has i [a.v, b.v] T.api_Nat) (n : Nats h a xs) (m : Nats h b ys) : go (.fn F.law03_few [(⟨some (.new i 0), 2, .is 2⟩ : Sl).v]) h = some (.bool (decide (xs.length ≤ 70) && decide (ys.length ≤ 70)), h) := by
  have r : Rows h ⟨some (.new i 0), 2, .is 2⟩ [(a, xs), (b, ys)] := ⟨Cells.of_has c rfl, fun p hp => by
    simp at hp
    rcases hp with rfl | rfl
    · exact n
    · exact m, by simp⟩
  rw [few_spec r]
  simp

theorem modint_right2_spec {h : AH} {i : Nat} {a b : Sl} {xs ys : List Nat} {p q : Bool} (c : h.has i [.bool p, a.v, .bool q, b.v] T.api_Int) (n : Nats h a xs) (m : Nats h b ys) : ∃ h', go (.fn F.modint_right [(⟨some (.new i 0), 2, .is 2⟩ : Sl).v]) h = some (.bool (rtI p xs && rtI q ys), h') ∧ Grow h h' := by
  have r : IRows h ⟨some (.new i 0), 2, .is 2⟩ [(p, a, xs), (q, b, ys)] := ⟨Cells.of_has c rfl, fun r hr => by
    simp at hr
    rcases hr with rfl | rfl
    · exact n
    · exact m, by simp⟩
  obtain ⟨h', e, g⟩ := modint_right_spec r
  exact ⟨h', by rw [e]; simp, g⟩

end Go.Ab
