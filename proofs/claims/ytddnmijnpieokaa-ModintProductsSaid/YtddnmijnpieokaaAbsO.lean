/- The abstract interpreter: from what it answers to what the call does, in the world at the begin. -/
import Derived.Test.YtddnmijnpieokaaAbsN
import Derived.Below
set_option linter.unusedVariables false
namespace Go.Ab

variable {P : Program}

theorem Sim.begin (W : World) : Sim P W (fun _ => none) ⟨W.heap, #[]⟩ W :=
  ⟨rfl, rfl, rfl, rfl, Nat.le_refl _, fun _ _ => rfl, fun _ _ h => by simp at h, fun _ _ h => by simp at h, fun _ _ _ h => by simp at h, fun _ _ _ _ h => by simp at h⟩

/-- What the abstract interpreter answers, the call answers, and below the heap's old size nothing has turned. -/
theorem start (hm : P.follows .mixedOrders = true) {K : Keep} {f : FuncId} {xs : List AV} {b : Bool} {W : World} {h' : AH} (hr : run P K (.fn f xs) ⟨W.heap, #[]⟩ = some (.bool b, h')) {args : Array Value} (hx : VRels (fun _ => none) xs args.toList) :
    Calls P f args W fun e w' => e = .returned (.bool b) ∧ Go.RowKit.Below W.heap.size W w' := by
  have := (run_ok (P := P) (O := W) K hm).fn hr (Sim.begin W) hx
  rw [Array.toArray_toList] at this
  refine this.mono ?_
  rintro e w' ⟨u, rfl, ν, hv, S, -, -⟩
  simp only [VRel] at hv
  subst hv
  exact ⟨rfl, S.os, S.tape, S.output, S.base, S.keep⟩

end Go.Ab
