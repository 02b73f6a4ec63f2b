/-
  No cell of these rows narrows 'for every input' (looked for: loops, veiled, ifaces, maps, wideKeys, modest, calm, conditions, laid).
  DERIVED. THE GIVEN ROWS OF THIS SEAT. 16 by the template 'for every input the law returns true; each argument reads behind the call as it read before'; 0 by the template 'total and deterministic' (their statements: YtddnmijnpieokaaTotals.lean).
  GIVEN WITH THE SEED: the statements are not yours to turn. If you find one false, say at which input.
  Laid BY PROGRAM, IN A SANDBOX (cutbox-rows.mjs): the forced cells as the released guide's own fill.sh prints them over the translation 68525903bca75459… (all of the seat's roots in one cut). By AI agents, Wed Nov 11 2026. No macro, syntax, notation, axiom, sorry.
-/
import Derived.Test.YtddnmijnpieokaaChecked
import GoSem.Claim
import GoSem.ClaimJoined
import GoSem.ClaimMapViews
import Derived.JoinedTies
import Derived.KernelRfl
namespace Go.Proofs.Ytddnmijnpieokaa
/- THE CELL 'sum', in the pinned program and in every row, IS THE sha256 OF THE DUMP (.gsa) THAT YtddnmijnpieokaaProg.lean LOADS. Nothing in Lean hashes anything: it is a label: what it is worth is what the hold of that sum in a sandbox is worth. -/
noncomputable def Try.pinned : Pinned := { name := "ytddnmijnpieokaa", sum := "68525903bca754590c925056910e03381e166f256ee88fdf89cb173a080cbc8f", checked := Try.checked }
namespace Rows
def none {H : Type} : Left H := { results := [], args := [] }

/-- 'windbreaklaw16.LossRights': WHATEVER THE INPUT: true; the input reads as it did. -/
def lossRightsSpec : ChangeSpec := { name := "lossRights", fn := fun _ => fun
  | [d] => { results := [.lit (.bool true)], args := [d] }
  | _ => none }
def lossRightsRow : OpenClaim := { program := "ytddnmijnpieokaa", sum := "68525903bca754590c925056910e03381e166f256ee88fdf89cb173a080cbc8f", func := "windbreak/windbreaklaw16.LossRights", spec := "lossRights", unfollowed := true, recurses := true, apart := false }
def LossRightsSaid : Prop := lossRightsRow.holds Try.pinned (OpenSpec.ofChange lossRightsSpec)

/-- ITS FALSE NEIGHBOUR: 'it returns false'. Refute it at one input. -/
def lossRightsWrong : ChangeSpec := { name := "lossRights", fn := fun _ => fun
  | [d] => { results := [.lit (.bool false)], args := [d] }
  | _ => none }
def LossRightsWrongFalsely : Prop := lossRightsRow.holds Try.pinned (OpenSpec.ofChange lossRightsWrong)

/-- 'windbreaklaw16.LossGrads': WHATEVER THE INPUT: true; the input reads as it did. -/
def lossGradsSpec : ChangeSpec := { name := "lossGrads", fn := fun _ => fun
  | [d1, d2, d3] => { results := [.lit (.bool true)], args := [d1, d2, d3] }
  | _ => none }
def lossGradsRow : OpenClaim := { program := "ytddnmijnpieokaa", sum := "68525903bca754590c925056910e03381e166f256ee88fdf89cb173a080cbc8f", func := "windbreak/windbreaklaw16.LossGrads", spec := "lossGrads", unfollowed := true, recurses := true, apart := false }
def LossGradsSaid : Prop := lossGradsRow.holds Try.pinned (OpenSpec.ofChange lossGradsSpec)

/-- ITS FALSE NEIGHBOUR: 'it returns false'. Refute it at one input. -/
def lossGradsWrong : ChangeSpec := { name := "lossGrads", fn := fun _ => fun
  | [d1, d2, d3] => { results := [.lit (.bool false)], args := [d1, d2, d3] }
  | _ => none }
def LossGradsWrongFalsely : Prop := lossGradsRow.holds Try.pinned (OpenSpec.ofChange lossGradsWrong)

/-- 'windbreaklaw16.LossRises': WHATEVER THE INPUT: true; the input reads as it did. -/
def lossRisesSpec : ChangeSpec := { name := "lossRises", fn := fun _ => fun
  | [d1, d2, d3] => { results := [.lit (.bool true)], args := [d1, d2, d3] }
  | _ => none }
def lossRisesRow : OpenClaim := { program := "ytddnmijnpieokaa", sum := "68525903bca754590c925056910e03381e166f256ee88fdf89cb173a080cbc8f", func := "windbreak/windbreaklaw16.LossRises", spec := "lossRises", unfollowed := true, recurses := true, apart := false }
def LossRisesSaid : Prop := lossRisesRow.holds Try.pinned (OpenSpec.ofChange lossRisesSpec)

/-- ITS FALSE NEIGHBOUR: 'it returns false'. Refute it at one input. -/
def lossRisesWrong : ChangeSpec := { name := "lossRises", fn := fun _ => fun
  | [d1, d2, d3] => { results := [.lit (.bool false)], args := [d1, d2, d3] }
  | _ => none }
def LossRisesWrongFalsely : Prop := lossRisesRow.holds Try.pinned (OpenSpec.ofChange lossRisesWrong)

/-- 'windbreaklaw03.ModintRights': WHATEVER THE INPUT: true; the input reads as it did. -/
def modintRightsSpec : ChangeSpec := { name := "modintRights", fn := fun _ => fun
  | [d1, d2, d3] => { results := [.lit (.bool true)], args := [d1, d2, d3] }
  | _ => none }
def modintRightsRow : OpenClaim := { program := "ytddnmijnpieokaa", sum := "68525903bca754590c925056910e03381e166f256ee88fdf89cb173a080cbc8f", func := "windbreak/windbreaklaw03.ModintRights", spec := "modintRights", apart := false }
def ModintRightsSaid : Prop := modintRightsRow.holds Try.pinned (OpenSpec.ofChange modintRightsSpec)

/-- ITS FALSE NEIGHBOUR: 'it returns false'. Refute it at one input. -/
def modintRightsWrong : ChangeSpec := { name := "modintRights", fn := fun _ => fun
  | [d1, d2, d3] => { results := [.lit (.bool false)], args := [d1, d2, d3] }
  | _ => none }
def ModintRightsWrongFalsely : Prop := modintRightsRow.holds Try.pinned (OpenSpec.ofChange modintRightsWrong)

/-- 'windbreaklaw03.ModintCompares': WHATEVER THE INPUT: true; the input reads as it did. -/
def modintComparesSpec : ChangeSpec := { name := "modintCompares", fn := fun _ => fun
  | [d1, d2] => { results := [.lit (.bool true)], args := [d1, d2] }
  | _ => none }
def modintComparesRow : OpenClaim := { program := "ytddnmijnpieokaa", sum := "68525903bca754590c925056910e03381e166f256ee88fdf89cb173a080cbc8f", func := "windbreak/windbreaklaw03.ModintCompares", spec := "modintCompares", unfollowed := true, recurses := true, apart := false }
def ModintComparesSaid : Prop := modintComparesRow.holds Try.pinned (OpenSpec.ofChange modintComparesSpec)

/-- ITS FALSE NEIGHBOUR: 'it returns false'. Refute it at one input. -/
def modintComparesWrong : ChangeSpec := { name := "modintCompares", fn := fun _ => fun
  | [d1, d2] => { results := [.lit (.bool false)], args := [d1, d2] }
  | _ => none }
def ModintComparesWrongFalsely : Prop := modintComparesRow.holds Try.pinned (OpenSpec.ofChange modintComparesWrong)

/-- 'windbreaklaw03.ModintSums': WHATEVER THE INPUT: true; the input reads as it did. -/
def modintSumsSpec : ChangeSpec := { name := "modintSums", fn := fun _ => fun
  | [d1, d2] => { results := [.lit (.bool true)], args := [d1, d2] }
  | _ => none }
def modintSumsRow : OpenClaim := { program := "ytddnmijnpieokaa", sum := "68525903bca754590c925056910e03381e166f256ee88fdf89cb173a080cbc8f", func := "windbreak/windbreaklaw03.ModintSums", spec := "modintSums", inPlace := ["math/bits.Add64", "math/bits.Sub64"], unfollowed := true, recurses := true, apart := false }
def ModintSumsSaid : Prop := modintSumsRow.holds Try.pinned (OpenSpec.ofChange modintSumsSpec)

/-- ITS FALSE NEIGHBOUR: 'it returns false'. Refute it at one input. -/
def modintSumsWrong : ChangeSpec := { name := "modintSums", fn := fun _ => fun
  | [d1, d2] => { results := [.lit (.bool false)], args := [d1, d2] }
  | _ => none }
def ModintSumsWrongFalsely : Prop := modintSumsRow.holds Try.pinned (OpenSpec.ofChange modintSumsWrong)

/-- 'windbreaklaw03.ModintProducts': WHATEVER THE INPUT: true; the input reads as it did. -/
def modintProductsSpec : ChangeSpec := { name := "modintProducts", fn := fun _ => fun
  | [d1, d2] => { results := [.lit (.bool true)], args := [d1, d2] }
  | _ => none }
def modintProductsRow : OpenClaim := { program := "ytddnmijnpieokaa", sum := "68525903bca754590c925056910e03381e166f256ee88fdf89cb173a080cbc8f", func := "windbreak/windbreaklaw03.ModintProducts", spec := "modintProducts", inPlace := ["math/bits.Add64", "math/bits.Sub64"], unfollowed := true, recurses := true, apart := false }
def ModintProductsSaid : Prop := modintProductsRow.holds Try.pinned (OpenSpec.ofChange modintProductsSpec)

/-- ITS FALSE NEIGHBOUR: 'it returns false'. Refute it at one input. -/
def modintProductsWrong : ChangeSpec := { name := "modintProducts", fn := fun _ => fun
  | [d1, d2] => { results := [.lit (.bool false)], args := [d1, d2] }
  | _ => none }
def ModintProductsWrongFalsely : Prop := modintProductsRow.holds Try.pinned (OpenSpec.ofChange modintProductsWrong)

/-- 'windbreaklaw03.ModintGcds': WHATEVER THE INPUT: true; the input reads as it did. -/
def modintGcdsSpec : ChangeSpec := { name := "modintGcds", fn := fun _ => fun
  | [d1, d2] => { results := [.lit (.bool true)], args := [d1, d2] }
  | _ => none }
def modintGcdsRow : OpenClaim := { program := "ytddnmijnpieokaa", sum := "68525903bca754590c925056910e03381e166f256ee88fdf89cb173a080cbc8f", func := "windbreak/windbreaklaw03.ModintGcds", spec := "modintGcds", inPlace := ["math/bits.Add64", "math/bits.Sub64"], unfollowed := true, recurses := true, named := ["math/bits.divideError", "math/bits.overflowError"], apart := false }
def ModintGcdsSaid : Prop := modintGcdsRow.holds Try.pinned (OpenSpec.ofChange modintGcdsSpec)

/-- ITS FALSE NEIGHBOUR: 'it returns false'. Refute it at one input. -/
def modintGcdsWrong : ChangeSpec := { name := "modintGcds", fn := fun _ => fun
  | [d1, d2] => { results := [.lit (.bool false)], args := [d1, d2] }
  | _ => none }
def ModintGcdsWrongFalsely : Prop := modintGcdsRow.holds Try.pinned (OpenSpec.ofChange modintGcdsWrong)

/-- 'windbreaklaw03.ModintFloors': WHATEVER THE INPUT: true; the input reads as it did. -/
def modintFloorsSpec : ChangeSpec := { name := "modintFloors", fn := fun _ => fun
  | [d1, d2] => { results := [.lit (.bool true)], args := [d1, d2] }
  | _ => none }
def modintFloorsRow : OpenClaim := { program := "ytddnmijnpieokaa", sum := "68525903bca754590c925056910e03381e166f256ee88fdf89cb173a080cbc8f", func := "windbreak/windbreaklaw03.ModintFloors", spec := "modintFloors", inPlace := ["math/bits.Add64", "math/bits.Sub64"], unfollowed := true, recurses := true, named := ["math/bits.divideError", "math/bits.overflowError"], apart := false }
def ModintFloorsSaid : Prop := modintFloorsRow.holds Try.pinned (OpenSpec.ofChange modintFloorsSpec)

/-- ITS FALSE NEIGHBOUR: 'it returns false'. Refute it at one input. -/
def modintFloorsWrong : ChangeSpec := { name := "modintFloors", fn := fun _ => fun
  | [d1, d2] => { results := [.lit (.bool false)], args := [d1, d2] }
  | _ => none }
def ModintFloorsWrongFalsely : Prop := modintFloorsRow.holds Try.pinned (OpenSpec.ofChange modintFloorsWrong)

/-- 'windbreaklaw03.ModintBack': WHATEVER THE INPUT: true; the input reads as it did. -/
def modintBackSpec : ChangeSpec := { name := "modintBack", fn := fun _ => fun
  | [d1, d2] => { results := [.lit (.bool true)], args := [d1, d2] }
  | _ => none }
def modintBackRow : OpenClaim := { program := "ytddnmijnpieokaa", sum := "68525903bca754590c925056910e03381e166f256ee88fdf89cb173a080cbc8f", func := "windbreak/windbreaklaw03.ModintBack", spec := "modintBack", inPlace := ["math/bits.Add64", "math/bits.Sub64"], unfollowed := true, recurses := true, named := ["math/bits.divideError", "math/bits.overflowError"], apart := false }
def ModintBackSaid : Prop := modintBackRow.holds Try.pinned (OpenSpec.ofChange modintBackSpec)

/-- ITS FALSE NEIGHBOUR: 'it returns false'. Refute it at one input. -/
def modintBackWrong : ChangeSpec := { name := "modintBack", fn := fun _ => fun
  | [d1, d2] => { results := [.lit (.bool false)], args := [d1, d2] }
  | _ => none }
def ModintBackWrongFalsely : Prop := modintBackRow.holds Try.pinned (OpenSpec.ofChange modintBackWrong)

/-- 'windbreaklaw03.ModintInverses': WHATEVER THE INPUT: true; the input reads as it did. -/
def modintInversesSpec : ChangeSpec := { name := "modintInverses", fn := fun _ => fun
  | [d1, d2] => { results := [.lit (.bool true)], args := [d1, d2] }
  | _ => none }
def modintInversesRow : OpenClaim := { program := "ytddnmijnpieokaa", sum := "68525903bca754590c925056910e03381e166f256ee88fdf89cb173a080cbc8f", func := "windbreak/windbreaklaw03.ModintInverses", spec := "modintInverses", inPlace := ["math/bits.Add64", "math/bits.Sub64"], unfollowed := true, recurses := true, named := ["math/bits.divideError", "math/bits.overflowError"], apart := false }
def ModintInversesSaid : Prop := modintInversesRow.holds Try.pinned (OpenSpec.ofChange modintInversesSpec)

/-- ITS FALSE NEIGHBOUR: 'it returns false'. Refute it at one input. -/
def modintInversesWrong : ChangeSpec := { name := "modintInverses", fn := fun _ => fun
  | [d1, d2] => { results := [.lit (.bool false)], args := [d1, d2] }
  | _ => none }
def ModintInversesWrongFalsely : Prop := modintInversesRow.holds Try.pinned (OpenSpec.ofChange modintInversesWrong)

/-- 'windbreaklaw03.ModintTwice': WHATEVER THE INPUT: true; the input reads as it did. -/
def modintTwiceSpec : ChangeSpec := { name := "modintTwice", fn := fun _ => fun
  | [d1, d2] => { results := [.lit (.bool true)], args := [d1, d2] }
  | _ => none }
def modintTwiceRow : OpenClaim := { program := "ytddnmijnpieokaa", sum := "68525903bca754590c925056910e03381e166f256ee88fdf89cb173a080cbc8f", func := "windbreak/windbreaklaw03.ModintTwice", spec := "modintTwice", inPlace := ["math/bits.Add64", "math/bits.Sub64"], unfollowed := true, recurses := true, named := ["math/bits.divideError", "math/bits.overflowError"], apart := false }
def ModintTwiceSaid : Prop := modintTwiceRow.holds Try.pinned (OpenSpec.ofChange modintTwiceSpec)

/-- ITS FALSE NEIGHBOUR: 'it returns false'. Refute it at one input. -/
def modintTwiceWrong : ChangeSpec := { name := "modintTwice", fn := fun _ => fun
  | [d1, d2] => { results := [.lit (.bool false)], args := [d1, d2] }
  | _ => none }
def ModintTwiceWrongFalsely : Prop := modintTwiceRow.holds Try.pinned (OpenSpec.ofChange modintTwiceWrong)

/-- 'windbreaklaw16.LossWeights': WHATEVER THE INPUT: true; the input reads as it did. -/
def lossWeightsSpec : ChangeSpec := { name := "lossWeights", fn := fun _ => fun
  | [d1, d2] => { results := [.lit (.bool true)], args := [d1, d2] }
  | _ => none }
def lossWeightsRow : OpenClaim := { program := "ytddnmijnpieokaa", sum := "68525903bca754590c925056910e03381e166f256ee88fdf89cb173a080cbc8f", func := "windbreak/windbreaklaw16.LossWeights", spec := "lossWeights", inPlace := ["math/bits.Add64", "math/bits.Sub64"], unfollowed := true, recurses := true, named := ["math/bits.divideError", "math/bits.overflowError"], apart := false }
def LossWeightsSaid : Prop := lossWeightsRow.holds Try.pinned (OpenSpec.ofChange lossWeightsSpec)

/-- ITS FALSE NEIGHBOUR: 'it returns false'. Refute it at one input. -/
def lossWeightsWrong : ChangeSpec := { name := "lossWeights", fn := fun _ => fun
  | [d1, d2] => { results := [.lit (.bool false)], args := [d1, d2] }
  | _ => none }
def LossWeightsWrongFalsely : Prop := lossWeightsRow.holds Try.pinned (OpenSpec.ofChange lossWeightsWrong)

/-- 'windbreaklaw16.LossSigns': WHATEVER THE INPUT: true; the input reads as it did. -/
def lossSignsSpec : ChangeSpec := { name := "lossSigns", fn := fun _ => fun
  | [d1, d2] => { results := [.lit (.bool true)], args := [d1, d2] }
  | _ => none }
def lossSignsRow : OpenClaim := { program := "ytddnmijnpieokaa", sum := "68525903bca754590c925056910e03381e166f256ee88fdf89cb173a080cbc8f", func := "windbreak/windbreaklaw16.LossSigns", spec := "lossSigns", inPlace := ["math/bits.Add64", "math/bits.Sub64"], unfollowed := true, recurses := true, named := ["math/bits.divideError", "math/bits.overflowError"], apart := false }
def LossSignsSaid : Prop := lossSignsRow.holds Try.pinned (OpenSpec.ofChange lossSignsSpec)

/-- ITS FALSE NEIGHBOUR: 'it returns false'. Refute it at one input. -/
def lossSignsWrong : ChangeSpec := { name := "lossSigns", fn := fun _ => fun
  | [d1, d2] => { results := [.lit (.bool false)], args := [d1, d2] }
  | _ => none }
def LossSignsWrongFalsely : Prop := lossSignsRow.holds Try.pinned (OpenSpec.ofChange lossSignsWrong)

/-- 'windbreaklaw03.ModintCrts': WHATEVER THE INPUT: true; the input reads as it did. -/
def modintCrtsSpec : ChangeSpec := { name := "modintCrts", fn := fun _ => fun
  | [d1, d2] => { results := [.lit (.bool true)], args := [d1, d2] }
  | _ => none }
def modintCrtsRow : OpenClaim := { program := "ytddnmijnpieokaa", sum := "68525903bca754590c925056910e03381e166f256ee88fdf89cb173a080cbc8f", func := "windbreak/windbreaklaw03.ModintCrts", spec := "modintCrts", inPlace := ["math/bits.Add64", "math/bits.Sub64"], unfollowed := true, recurses := true, named := ["math/bits.divideError", "math/bits.overflowError"], apart := false }
def ModintCrtsSaid : Prop := modintCrtsRow.holds Try.pinned (OpenSpec.ofChange modintCrtsSpec)

/-- ITS FALSE NEIGHBOUR: 'it returns false'. Refute it at one input. -/
def modintCrtsWrong : ChangeSpec := { name := "modintCrts", fn := fun _ => fun
  | [d1, d2] => { results := [.lit (.bool false)], args := [d1, d2] }
  | _ => none }
def ModintCrtsWrongFalsely : Prop := modintCrtsRow.holds Try.pinned (OpenSpec.ofChange modintCrtsWrong)

/-- 'windbreaklaw03.ModintLeaves': WHATEVER THE INPUT: true; the input reads as it did. -/
def modintLeavesSpec : ChangeSpec := { name := "modintLeaves", fn := fun _ => fun
  | [d1, d2] => { results := [.lit (.bool true)], args := [d1, d2] }
  | _ => none }
def modintLeavesRow : OpenClaim := { program := "ytddnmijnpieokaa", sum := "68525903bca754590c925056910e03381e166f256ee88fdf89cb173a080cbc8f", func := "windbreak/windbreaklaw03.ModintLeaves", spec := "modintLeaves", inPlace := ["math/bits.Add64", "math/bits.Sub64"], unfollowed := true, recurses := true, named := ["math/bits.divideError", "math/bits.overflowError"], apart := false }
def ModintLeavesSaid : Prop := modintLeavesRow.holds Try.pinned (OpenSpec.ofChange modintLeavesSpec)

/-- ITS FALSE NEIGHBOUR: 'it returns false'. Refute it at one input. -/
def modintLeavesWrong : ChangeSpec := { name := "modintLeaves", fn := fun _ => fun
  | [d1, d2] => { results := [.lit (.bool false)], args := [d1, d2] }
  | _ => none }
def ModintLeavesWrongFalsely : Prop := modintLeavesRow.holds Try.pinned (OpenSpec.ofChange modintLeavesWrong)

/- THE SECOND FORM. 'bulk': how many values and letters a reading holds, each counted each time it is reached (what is shared counts as often as it is met; a slice's spare places count too). A statement '..UptoSaid' is the law's where the arguments, and the package variables that the reading takes, are together of bulk at most 1048576: NARROWER than '..Said'. Prove '..Said' where nothing that the law and all that it calls make is longer than what came in: it says more and counts as full. Else prove '..UptoSaid'. A law counts once. -/
mutual
def uptoBulk {H : Type} : DataW H → Nat
  | .lit (.string bytes) => bytes.length + 1
  | .lit _ => 1
  | .nil => 1
  | .ptr d => uptoBulk d + 1
  | .slice elems spare => uptoBulkAll elems + uptoBulkAll spare + 1
  | .agg parts => uptoBulkAll parts + 1
  | .iface _ d => uptoBulk d + 1
  | .map entries => uptoBulkEntries entries + 1
  | .held _ => 1
def uptoBulkAll {H : Type} : List (DataW H) → Nat
  | [] => 0
  | d :: r => uptoBulk d + uptoBulkAll r
def uptoBulkEntries {H : Type} : List (Lit × DataW H) → Nat
  | [] => 0
  | x :: r => uptoBulkEntry x + uptoBulkEntries r
def uptoBulkEntry {H : Type} : Lit × DataW H → Nat
  | (.string bytes, d) => bytes.length + uptoBulk d + 1
  | (_, d) => uptoBulk d + 1
 end
def uptoSmall : (H : Type) → List (DataW H) → Bool := fun _ ds => decide (uptoBulkAll ds ≤ 1048576)
def OpenSpec.upto (s : _root_.Go.ChangeSpec) : _root_.Go.OpenSpec := { _root_.Go.OpenSpec.ofChange s with cond := some uptoSmall }

/-- 'windbreaklaw16.LossRights', WHERE WHAT IT READS IS OF BULK AT MOST 1048576: true; the input reads as it did. -/
def lossRightsUptoRow : OpenClaim := { program := "ytddnmijnpieokaa", sum := "68525903bca754590c925056910e03381e166f256ee88fdf89cb173a080cbc8f", func := "windbreak/windbreaklaw16.LossRights", spec := "lossRights", unfollowed := true, recurses := true, apart := false, narrowed := true }
def LossRightsUptoSaid : Prop := lossRightsUptoRow.holds Try.pinned (OpenSpec.upto lossRightsSpec)

/-- 'windbreaklaw16.LossGrads', WHERE WHAT IT READS IS OF BULK AT MOST 1048576: true; the input reads as it did. -/
def lossGradsUptoRow : OpenClaim := { program := "ytddnmijnpieokaa", sum := "68525903bca754590c925056910e03381e166f256ee88fdf89cb173a080cbc8f", func := "windbreak/windbreaklaw16.LossGrads", spec := "lossGrads", unfollowed := true, recurses := true, apart := false, narrowed := true }
def LossGradsUptoSaid : Prop := lossGradsUptoRow.holds Try.pinned (OpenSpec.upto lossGradsSpec)

/-- 'windbreaklaw16.LossRises', WHERE WHAT IT READS IS OF BULK AT MOST 1048576: true; the input reads as it did. -/
def lossRisesUptoRow : OpenClaim := { program := "ytddnmijnpieokaa", sum := "68525903bca754590c925056910e03381e166f256ee88fdf89cb173a080cbc8f", func := "windbreak/windbreaklaw16.LossRises", spec := "lossRises", unfollowed := true, recurses := true, apart := false, narrowed := true }
def LossRisesUptoSaid : Prop := lossRisesUptoRow.holds Try.pinned (OpenSpec.upto lossRisesSpec)

/-- 'windbreaklaw03.ModintRights', WHERE WHAT IT READS IS OF BULK AT MOST 1048576: true; the input reads as it did. -/
def modintRightsUptoRow : OpenClaim := { program := "ytddnmijnpieokaa", sum := "68525903bca754590c925056910e03381e166f256ee88fdf89cb173a080cbc8f", func := "windbreak/windbreaklaw03.ModintRights", spec := "modintRights", apart := false, narrowed := true }
def ModintRightsUptoSaid : Prop := modintRightsUptoRow.holds Try.pinned (OpenSpec.upto modintRightsSpec)

/-- 'windbreaklaw03.ModintCompares', WHERE WHAT IT READS IS OF BULK AT MOST 1048576: true; the input reads as it did. -/
def modintComparesUptoRow : OpenClaim := { program := "ytddnmijnpieokaa", sum := "68525903bca754590c925056910e03381e166f256ee88fdf89cb173a080cbc8f", func := "windbreak/windbreaklaw03.ModintCompares", spec := "modintCompares", unfollowed := true, recurses := true, apart := false, narrowed := true }
def ModintComparesUptoSaid : Prop := modintComparesUptoRow.holds Try.pinned (OpenSpec.upto modintComparesSpec)

/-- 'windbreaklaw03.ModintSums', WHERE WHAT IT READS IS OF BULK AT MOST 1048576: true; the input reads as it did. -/
def modintSumsUptoRow : OpenClaim := { program := "ytddnmijnpieokaa", sum := "68525903bca754590c925056910e03381e166f256ee88fdf89cb173a080cbc8f", func := "windbreak/windbreaklaw03.ModintSums", spec := "modintSums", inPlace := ["math/bits.Add64", "math/bits.Sub64"], unfollowed := true, recurses := true, apart := false, narrowed := true }
def ModintSumsUptoSaid : Prop := modintSumsUptoRow.holds Try.pinned (OpenSpec.upto modintSumsSpec)

/-- 'windbreaklaw03.ModintProducts', WHERE WHAT IT READS IS OF BULK AT MOST 1048576: true; the input reads as it did. -/
def modintProductsUptoRow : OpenClaim := { program := "ytddnmijnpieokaa", sum := "68525903bca754590c925056910e03381e166f256ee88fdf89cb173a080cbc8f", func := "windbreak/windbreaklaw03.ModintProducts", spec := "modintProducts", inPlace := ["math/bits.Add64", "math/bits.Sub64"], unfollowed := true, recurses := true, apart := false, narrowed := true }
def ModintProductsUptoSaid : Prop := modintProductsUptoRow.holds Try.pinned (OpenSpec.upto modintProductsSpec)

/-- 'windbreaklaw03.ModintGcds', WHERE WHAT IT READS IS OF BULK AT MOST 1048576: true; the input reads as it did. -/
def modintGcdsUptoRow : OpenClaim := { program := "ytddnmijnpieokaa", sum := "68525903bca754590c925056910e03381e166f256ee88fdf89cb173a080cbc8f", func := "windbreak/windbreaklaw03.ModintGcds", spec := "modintGcds", inPlace := ["math/bits.Add64", "math/bits.Sub64"], unfollowed := true, recurses := true, named := ["math/bits.divideError", "math/bits.overflowError"], apart := false, narrowed := true }
def ModintGcdsUptoSaid : Prop := modintGcdsUptoRow.holds Try.pinned (OpenSpec.upto modintGcdsSpec)

/-- 'windbreaklaw03.ModintFloors', WHERE WHAT IT READS IS OF BULK AT MOST 1048576: true; the input reads as it did. -/
def modintFloorsUptoRow : OpenClaim := { program := "ytddnmijnpieokaa", sum := "68525903bca754590c925056910e03381e166f256ee88fdf89cb173a080cbc8f", func := "windbreak/windbreaklaw03.ModintFloors", spec := "modintFloors", inPlace := ["math/bits.Add64", "math/bits.Sub64"], unfollowed := true, recurses := true, named := ["math/bits.divideError", "math/bits.overflowError"], apart := false, narrowed := true }
def ModintFloorsUptoSaid : Prop := modintFloorsUptoRow.holds Try.pinned (OpenSpec.upto modintFloorsSpec)

/-- 'windbreaklaw03.ModintBack', WHERE WHAT IT READS IS OF BULK AT MOST 1048576: true; the input reads as it did. -/
def modintBackUptoRow : OpenClaim := { program := "ytddnmijnpieokaa", sum := "68525903bca754590c925056910e03381e166f256ee88fdf89cb173a080cbc8f", func := "windbreak/windbreaklaw03.ModintBack", spec := "modintBack", inPlace := ["math/bits.Add64", "math/bits.Sub64"], unfollowed := true, recurses := true, named := ["math/bits.divideError", "math/bits.overflowError"], apart := false, narrowed := true }
def ModintBackUptoSaid : Prop := modintBackUptoRow.holds Try.pinned (OpenSpec.upto modintBackSpec)

/-- 'windbreaklaw03.ModintInverses', WHERE WHAT IT READS IS OF BULK AT MOST 1048576: true; the input reads as it did. -/
def modintInversesUptoRow : OpenClaim := { program := "ytddnmijnpieokaa", sum := "68525903bca754590c925056910e03381e166f256ee88fdf89cb173a080cbc8f", func := "windbreak/windbreaklaw03.ModintInverses", spec := "modintInverses", inPlace := ["math/bits.Add64", "math/bits.Sub64"], unfollowed := true, recurses := true, named := ["math/bits.divideError", "math/bits.overflowError"], apart := false, narrowed := true }
def ModintInversesUptoSaid : Prop := modintInversesUptoRow.holds Try.pinned (OpenSpec.upto modintInversesSpec)

/-- 'windbreaklaw03.ModintTwice', WHERE WHAT IT READS IS OF BULK AT MOST 1048576: true; the input reads as it did. -/
def modintTwiceUptoRow : OpenClaim := { program := "ytddnmijnpieokaa", sum := "68525903bca754590c925056910e03381e166f256ee88fdf89cb173a080cbc8f", func := "windbreak/windbreaklaw03.ModintTwice", spec := "modintTwice", inPlace := ["math/bits.Add64", "math/bits.Sub64"], unfollowed := true, recurses := true, named := ["math/bits.divideError", "math/bits.overflowError"], apart := false, narrowed := true }
def ModintTwiceUptoSaid : Prop := modintTwiceUptoRow.holds Try.pinned (OpenSpec.upto modintTwiceSpec)

/-- 'windbreaklaw16.LossWeights', WHERE WHAT IT READS IS OF BULK AT MOST 1048576: true; the input reads as it did. -/
def lossWeightsUptoRow : OpenClaim := { program := "ytddnmijnpieokaa", sum := "68525903bca754590c925056910e03381e166f256ee88fdf89cb173a080cbc8f", func := "windbreak/windbreaklaw16.LossWeights", spec := "lossWeights", inPlace := ["math/bits.Add64", "math/bits.Sub64"], unfollowed := true, recurses := true, named := ["math/bits.divideError", "math/bits.overflowError"], apart := false, narrowed := true }
def LossWeightsUptoSaid : Prop := lossWeightsUptoRow.holds Try.pinned (OpenSpec.upto lossWeightsSpec)

/-- 'windbreaklaw16.LossSigns', WHERE WHAT IT READS IS OF BULK AT MOST 1048576: true; the input reads as it did. -/
def lossSignsUptoRow : OpenClaim := { program := "ytddnmijnpieokaa", sum := "68525903bca754590c925056910e03381e166f256ee88fdf89cb173a080cbc8f", func := "windbreak/windbreaklaw16.LossSigns", spec := "lossSigns", inPlace := ["math/bits.Add64", "math/bits.Sub64"], unfollowed := true, recurses := true, named := ["math/bits.divideError", "math/bits.overflowError"], apart := false, narrowed := true }
def LossSignsUptoSaid : Prop := lossSignsUptoRow.holds Try.pinned (OpenSpec.upto lossSignsSpec)

/-- 'windbreaklaw03.ModintCrts', WHERE WHAT IT READS IS OF BULK AT MOST 1048576: true; the input reads as it did. -/
def modintCrtsUptoRow : OpenClaim := { program := "ytddnmijnpieokaa", sum := "68525903bca754590c925056910e03381e166f256ee88fdf89cb173a080cbc8f", func := "windbreak/windbreaklaw03.ModintCrts", spec := "modintCrts", inPlace := ["math/bits.Add64", "math/bits.Sub64"], unfollowed := true, recurses := true, named := ["math/bits.divideError", "math/bits.overflowError"], apart := false, narrowed := true }
def ModintCrtsUptoSaid : Prop := modintCrtsUptoRow.holds Try.pinned (OpenSpec.upto modintCrtsSpec)

/-- 'windbreaklaw03.ModintLeaves', WHERE WHAT IT READS IS OF BULK AT MOST 1048576: true; the input reads as it did. -/
def modintLeavesUptoRow : OpenClaim := { program := "ytddnmijnpieokaa", sum := "68525903bca754590c925056910e03381e166f256ee88fdf89cb173a080cbc8f", func := "windbreak/windbreaklaw03.ModintLeaves", spec := "modintLeaves", inPlace := ["math/bits.Add64", "math/bits.Sub64"], unfollowed := true, recurses := true, named := ["math/bits.divideError", "math/bits.overflowError"], apart := false, narrowed := true }
def ModintLeavesUptoSaid : Prop := modintLeavesUptoRow.holds Try.pinned (OpenSpec.upto modintLeavesSpec)

end Rows
end Go.Proofs.Ytddnmijnpieokaa
