/-
  No cell of these rows narrows 'for every input' (looked for: loops, veiled, ifaces, maps, wideKeys, modest, calm, conditions, laid).
  DERIVED. THE GIVEN ROWS OF THIS SEAT. 9 by the template 'for every input the law returns true; each argument reads behind the call as it read before'; 0 by the template 'total and deterministic' (their statements: YtkkbcdndkbicbaaTotals.lean).
  GIVEN WITH THE SEED: the statements are not yours to turn. If you find one false, say at which input.
  Laid BY PROGRAM, IN A SANDBOX (cutbox-rows.mjs): the forced cells as the released guide's own fill.sh prints them over the translation e445408f3ff97a1e… (all of the seat's roots in one cut). By AI agents, Wed Nov 11 2026. No macro, syntax, notation, axiom, sorry.
-/
import Derived.Test.YtkkbcdndkbicbaaChecked
import GoSem.Claim
import GoSem.ClaimJoined
import GoSem.ClaimMapViews
import Derived.JoinedTies
import Derived.KernelRfl
namespace Go.Proofs.Ytkkbcdndkbicbaa
/- THE CELL 'sum', in the pinned program and in every row, IS THE sha256 OF THE DUMP (.gsa) THAT YtkkbcdndkbicbaaProg.lean LOADS. Nothing in Lean hashes anything: it is a label: what it is worth is what the hold of that sum in a sandbox is worth. -/
noncomputable def Try.pinned : Pinned := { name := "ytkkbcdndkbicbaa", sum := "e445408f3ff97a1e19e4135b69f37abe0e3d85ddce701565022f515746bf73b7", checked := Try.checked }
namespace Rows
def none {H : Type} : Left H := { results := [], args := [] }

/-- 'windbreaklaw08.RationalMakes': WHATEVER THE INPUT: true; the input reads as it did. -/
def rationalMakesSpec : ChangeSpec := { name := "rationalMakes", fn := fun _ => fun
  | [d] => { results := [.lit (.bool true)], args := [d] }
  | _ => none }
def rationalMakesRow : OpenClaim := { program := "ytkkbcdndkbicbaa", sum := "e445408f3ff97a1e19e4135b69f37abe0e3d85ddce701565022f515746bf73b7", func := "windbreak/windbreaklaw08.RationalMakes", spec := "rationalMakes", inPlace := ["math/bits.Add64", "math/bits.Sub64"], unfollowed := true, recurses := true, named := ["math/bits.divideError", "math/bits.overflowError"], apart := false }
def RationalMakesSaid : Prop := rationalMakesRow.holds Try.pinned (OpenSpec.ofChange rationalMakesSpec)

/-- ITS FALSE NEIGHBOUR: 'it returns false'. Refute it at one input. -/
def rationalMakesWrong : ChangeSpec := { name := "rationalMakes", fn := fun _ => fun
  | [d] => { results := [.lit (.bool false)], args := [d] }
  | _ => none }
def RationalMakesWrongFalsely : Prop := rationalMakesRow.holds Try.pinned (OpenSpec.ofChange rationalMakesWrong)

/-- 'windbreaklaw17.GainScores': WHATEVER THE INPUT: true; the input reads as it did. -/
def gainScoresSpec : ChangeSpec := { name := "gainScores", fn := fun _ => fun
  | [d1, d2] => { results := [.lit (.bool true)], args := [d1, d2] }
  | _ => none }
def gainScoresRow : OpenClaim := { program := "ytkkbcdndkbicbaa", sum := "e445408f3ff97a1e19e4135b69f37abe0e3d85ddce701565022f515746bf73b7", func := "windbreak/windbreaklaw17.GainScores", spec := "gainScores", inPlace := ["math/bits.Add64", "math/bits.Sub64"], unfollowed := true, recurses := true, named := ["math/bits.divideError", "math/bits.overflowError"], apart := false }
def GainScoresSaid : Prop := gainScoresRow.holds Try.pinned (OpenSpec.ofChange gainScoresSpec)

/-- ITS FALSE NEIGHBOUR: 'it returns false'. Refute it at one input. -/
def gainScoresWrong : ChangeSpec := { name := "gainScores", fn := fun _ => fun
  | [d1, d2] => { results := [.lit (.bool false)], args := [d1, d2] }
  | _ => none }
def GainScoresWrongFalsely : Prop := gainScoresRow.holds Try.pinned (OpenSpec.ofChange gainScoresWrong)

/-- 'windbreaklaw08.RationalSums': WHATEVER THE INPUT: true; the input reads as it did. -/
def rationalSumsSpec : ChangeSpec := { name := "rationalSums", fn := fun _ => fun
  | [d1, d2] => { results := [.lit (.bool true)], args := [d1, d2] }
  | _ => none }
def rationalSumsRow : OpenClaim := { program := "ytkkbcdndkbicbaa", sum := "e445408f3ff97a1e19e4135b69f37abe0e3d85ddce701565022f515746bf73b7", func := "windbreak/windbreaklaw08.RationalSums", spec := "rationalSums", inPlace := ["math/bits.Add64", "math/bits.Sub64"], unfollowed := true, recurses := true, named := ["math/bits.divideError", "math/bits.overflowError"], apart := false }
def RationalSumsSaid : Prop := rationalSumsRow.holds Try.pinned (OpenSpec.ofChange rationalSumsSpec)

/-- ITS FALSE NEIGHBOUR: 'it returns false'. Refute it at one input. -/
def rationalSumsWrong : ChangeSpec := { name := "rationalSums", fn := fun _ => fun
  | [d1, d2] => { results := [.lit (.bool false)], args := [d1, d2] }
  | _ => none }
def RationalSumsWrongFalsely : Prop := rationalSumsRow.holds Try.pinned (OpenSpec.ofChange rationalSumsWrong)

/-- 'windbreaklaw08.RationalCompares': WHATEVER THE INPUT: true; the input reads as it did. -/
def rationalComparesSpec : ChangeSpec := { name := "rationalCompares", fn := fun _ => fun
  | [d1, d2] => { results := [.lit (.bool true)], args := [d1, d2] }
  | _ => none }
def rationalComparesRow : OpenClaim := { program := "ytkkbcdndkbicbaa", sum := "e445408f3ff97a1e19e4135b69f37abe0e3d85ddce701565022f515746bf73b7", func := "windbreak/windbreaklaw08.RationalCompares", spec := "rationalCompares", inPlace := ["math/bits.Add64", "math/bits.Sub64"], unfollowed := true, recurses := true, named := ["math/bits.divideError", "math/bits.overflowError"], apart := false }
def RationalComparesSaid : Prop := rationalComparesRow.holds Try.pinned (OpenSpec.ofChange rationalComparesSpec)

/-- ITS FALSE NEIGHBOUR: 'it returns false'. Refute it at one input. -/
def rationalComparesWrong : ChangeSpec := { name := "rationalCompares", fn := fun _ => fun
  | [d1, d2] => { results := [.lit (.bool false)], args := [d1, d2] }
  | _ => none }
def RationalComparesWrongFalsely : Prop := rationalComparesRow.holds Try.pinned (OpenSpec.ofChange rationalComparesWrong)

/-- 'windbreaklaw08.RationalBetween': WHATEVER THE INPUT: true; the input reads as it did. -/
def rationalBetweenSpec : ChangeSpec := { name := "rationalBetween", fn := fun _ => fun
  | [d] => { results := [.lit (.bool true)], args := [d] }
  | _ => none }
def rationalBetweenRow : OpenClaim := { program := "ytkkbcdndkbicbaa", sum := "e445408f3ff97a1e19e4135b69f37abe0e3d85ddce701565022f515746bf73b7", func := "windbreak/windbreaklaw08.RationalBetween", spec := "rationalBetween", inPlace := ["math/bits.Add64", "math/bits.Sub64"], unfollowed := true, recurses := true, named := ["math/bits.divideError", "math/bits.overflowError"], apart := false }
def RationalBetweenSaid : Prop := rationalBetweenRow.holds Try.pinned (OpenSpec.ofChange rationalBetweenSpec)

/-- ITS FALSE NEIGHBOUR: 'it returns false'. Refute it at one input. -/
def rationalBetweenWrong : ChangeSpec := { name := "rationalBetween", fn := fun _ => fun
  | [d] => { results := [.lit (.bool false)], args := [d] }
  | _ => none }
def RationalBetweenWrongFalsely : Prop := rationalBetweenRow.holds Try.pinned (OpenSpec.ofChange rationalBetweenWrong)

/-- 'windbreaklaw08.RationalAround': WHATEVER THE INPUT: true; the input reads as it did. -/
def rationalAroundSpec : ChangeSpec := { name := "rationalAround", fn := fun _ => fun
  | [d1, d2] => { results := [.lit (.bool true)], args := [d1, d2] }
  | _ => none }
def rationalAroundRow : OpenClaim := { program := "ytkkbcdndkbicbaa", sum := "e445408f3ff97a1e19e4135b69f37abe0e3d85ddce701565022f515746bf73b7", func := "windbreak/windbreaklaw08.RationalAround", spec := "rationalAround", inPlace := ["math/bits.Add64", "math/bits.Sub64"], unfollowed := true, recurses := true, named := ["math/bits.divideError", "math/bits.overflowError"], apart := false }
def RationalAroundSaid : Prop := rationalAroundRow.holds Try.pinned (OpenSpec.ofChange rationalAroundSpec)

/-- ITS FALSE NEIGHBOUR: 'it returns false'. Refute it at one input. -/
def rationalAroundWrong : ChangeSpec := { name := "rationalAround", fn := fun _ => fun
  | [d1, d2] => { results := [.lit (.bool false)], args := [d1, d2] }
  | _ => none }
def RationalAroundWrongFalsely : Prop := rationalAroundRow.holds Try.pinned (OpenSpec.ofChange rationalAroundWrong)

/-- 'windbreaklaw17.GainSplits': WHATEVER THE INPUT: true; the input reads as it did. -/
def gainSplitsSpec : ChangeSpec := { name := "gainSplits", fn := fun _ => fun
  | [d1, d2, d3] => { results := [.lit (.bool true)], args := [d1, d2, d3] }
  | _ => none }
def gainSplitsRow : OpenClaim := { program := "ytkkbcdndkbicbaa", sum := "e445408f3ff97a1e19e4135b69f37abe0e3d85ddce701565022f515746bf73b7", func := "windbreak/windbreaklaw17.GainSplits", spec := "gainSplits", inPlace := ["math/bits.Add64", "math/bits.Sub64"], unfollowed := true, recurses := true, named := ["math/bits.divideError", "math/bits.overflowError"], apart := false }
def GainSplitsSaid : Prop := gainSplitsRow.holds Try.pinned (OpenSpec.ofChange gainSplitsSpec)

/-- ITS FALSE NEIGHBOUR: 'it returns false'. Refute it at one input. -/
def gainSplitsWrong : ChangeSpec := { name := "gainSplits", fn := fun _ => fun
  | [d1, d2, d3] => { results := [.lit (.bool false)], args := [d1, d2, d3] }
  | _ => none }
def GainSplitsWrongFalsely : Prop := gainSplitsRow.holds Try.pinned (OpenSpec.ofChange gainSplitsWrong)

/-- 'windbreaklaw17.GainBoth': WHATEVER THE INPUT: true; the input reads as it did. -/
def gainBothSpec : ChangeSpec := { name := "gainBoth", fn := fun _ => fun
  | [d1, d2, d3] => { results := [.lit (.bool true)], args := [d1, d2, d3] }
  | _ => none }
def gainBothRow : OpenClaim := { program := "ytkkbcdndkbicbaa", sum := "e445408f3ff97a1e19e4135b69f37abe0e3d85ddce701565022f515746bf73b7", func := "windbreak/windbreaklaw17.GainBoth", spec := "gainBoth", inPlace := ["math/bits.Add64", "math/bits.Sub64"], unfollowed := true, recurses := true, named := ["math/bits.divideError", "math/bits.overflowError"], apart := false }
def GainBothSaid : Prop := gainBothRow.holds Try.pinned (OpenSpec.ofChange gainBothSpec)

/-- ITS FALSE NEIGHBOUR: 'it returns false'. Refute it at one input. -/
def gainBothWrong : ChangeSpec := { name := "gainBoth", fn := fun _ => fun
  | [d1, d2, d3] => { results := [.lit (.bool false)], args := [d1, d2, d3] }
  | _ => none }
def GainBothWrongFalsely : Prop := gainBothRow.holds Try.pinned (OpenSpec.ofChange gainBothWrong)

/-- 'windbreaklaw17.GainTurned': WHATEVER THE INPUT: true; the input reads as it did. -/
def gainTurnedSpec : ChangeSpec := { name := "gainTurned", fn := fun _ => fun
  | [d1, d2, d3] => { results := [.lit (.bool true)], args := [d1, d2, d3] }
  | _ => none }
def gainTurnedRow : OpenClaim := { program := "ytkkbcdndkbicbaa", sum := "e445408f3ff97a1e19e4135b69f37abe0e3d85ddce701565022f515746bf73b7", func := "windbreak/windbreaklaw17.GainTurned", spec := "gainTurned", inPlace := ["math/bits.Add64", "math/bits.Sub64"], unfollowed := true, recurses := true, named := ["math/bits.divideError", "math/bits.overflowError"], apart := false }
def GainTurnedSaid : Prop := gainTurnedRow.holds Try.pinned (OpenSpec.ofChange gainTurnedSpec)

/-- ITS FALSE NEIGHBOUR: 'it returns false'. Refute it at one input. -/
def gainTurnedWrong : ChangeSpec := { name := "gainTurned", fn := fun _ => fun
  | [d1, d2, d3] => { results := [.lit (.bool false)], args := [d1, d2, d3] }
  | _ => none }
def GainTurnedWrongFalsely : Prop := gainTurnedRow.holds Try.pinned (OpenSpec.ofChange gainTurnedWrong)

/- THE SECOND FORM. 'bulk': how many values and letters a reading holds, each counted each time it is reached (what is shared counts as often as it is met; a slice's spare places count too). A statement '..UptoSaid' is the law's where the arguments, and the package variables that the reading takes, are together of bulk at most 1048576: NARROWER than '..Said'. Prove '..Said' where nothing that the law and all that it calls make is longer than what came in: it says more and counts as full. Else prove '..UptoSaid'. A law counts once. -/
mutual
def uptoBulk {H : Type} : DataW H → Nat
  | .lit (.string bytes) => bytes.length + 1
  | .lit _ => 1
  | .nil => 1
  | .ptr d => uptoBulk d + 1
  | .slice elems spare => uptoBulkAll elems + uptoBulkAll spare + 1
  | .agg parts => uptoBulkAll parts + 1
  | .iface _ d => uptoBulk d + 1
  | .map entries => uptoBulkEntries entries + 1
  | .held _ => 1
def uptoBulkAll {H : Type} : List (DataW H) → Nat
  | [] => 0
  | d :: r => uptoBulk d + uptoBulkAll r
def uptoBulkEntries {H : Type} : List (Lit × DataW H) → Nat
  | [] => 0
  | x :: r => uptoBulkEntry x + uptoBulkEntries r
def uptoBulkEntry {H : Type} : Lit × DataW H → Nat
  | (.string bytes, d) => bytes.length + uptoBulk d + 1
  | (_, d) => uptoBulk d + 1
 end
def uptoSmall : (H : Type) → List (DataW H) → Bool := fun _ ds => decide (uptoBulkAll ds ≤ 1048576)
def OpenSpec.upto (s : _root_.Go.ChangeSpec) : _root_.Go.OpenSpec := { _root_.Go.OpenSpec.ofChange s with cond := some uptoSmall }

/-- 'windbreaklaw08.RationalMakes', WHERE WHAT IT READS IS OF BULK AT MOST 1048576: true; the input reads as it did. -/
def rationalMakesUptoRow : OpenClaim := { program := "ytkkbcdndkbicbaa", sum := "e445408f3ff97a1e19e4135b69f37abe0e3d85ddce701565022f515746bf73b7", func := "windbreak/windbreaklaw08.RationalMakes", spec := "rationalMakes", inPlace := ["math/bits.Add64", "math/bits.Sub64"], unfollowed := true, recurses := true, named := ["math/bits.divideError", "math/bits.overflowError"], apart := false, narrowed := true }
def RationalMakesUptoSaid : Prop := rationalMakesUptoRow.holds Try.pinned (OpenSpec.upto rationalMakesSpec)

/-- 'windbreaklaw17.GainScores', WHERE WHAT IT READS IS OF BULK AT MOST 1048576: true; the input reads as it did. -/
def gainScoresUptoRow : OpenClaim := { program := "ytkkbcdndkbicbaa", sum := "e445408f3ff97a1e19e4135b69f37abe0e3d85ddce701565022f515746bf73b7", func := "windbreak/windbreaklaw17.GainScores", spec := "gainScores", inPlace := ["math/bits.Add64", "math/bits.Sub64"], unfollowed := true, recurses := true, named := ["math/bits.divideError", "math/bits.overflowError"], apart := false, narrowed := true }
def GainScoresUptoSaid : Prop := gainScoresUptoRow.holds Try.pinned (OpenSpec.upto gainScoresSpec)

/-- 'windbreaklaw08.RationalSums', WHERE WHAT IT READS IS OF BULK AT MOST 1048576: true; the input reads as it did. -/
def rationalSumsUptoRow : OpenClaim := { program := "ytkkbcdndkbicbaa", sum := "e445408f3ff97a1e19e4135b69f37abe0e3d85ddce701565022f515746bf73b7", func := "windbreak/windbreaklaw08.RationalSums", spec := "rationalSums", inPlace := ["math/bits.Add64", "math/bits.Sub64"], unfollowed := true, recurses := true, named := ["math/bits.divideError", "math/bits.overflowError"], apart := false, narrowed := true }
def RationalSumsUptoSaid : Prop := rationalSumsUptoRow.holds Try.pinned (OpenSpec.upto rationalSumsSpec)

/-- 'windbreaklaw08.RationalCompares', WHERE WHAT IT READS IS OF BULK AT MOST 1048576: true; the input reads as it did. -/
def rationalComparesUptoRow : OpenClaim := { program := "ytkkbcdndkbicbaa", sum := "e445408f3ff97a1e19e4135b69f37abe0e3d85ddce701565022f515746bf73b7", func := "windbreak/windbreaklaw08.RationalCompares", spec := "rationalCompares", inPlace := ["math/bits.Add64", "math/bits.Sub64"], unfollowed := true, recurses := true, named := ["math/bits.divideError", "math/bits.overflowError"], apart := false, narrowed := true }
def RationalComparesUptoSaid : Prop := rationalComparesUptoRow.holds Try.pinned (OpenSpec.upto rationalComparesSpec)

/-- 'windbreaklaw08.RationalBetween', WHERE WHAT IT READS IS OF BULK AT MOST 1048576: true; the input reads as it did. -/
def rationalBetweenUptoRow : OpenClaim := { program := "ytkkbcdndkbicbaa", sum := "e445408f3ff97a1e19e4135b69f37abe0e3d85ddce701565022f515746bf73b7", func := "windbreak/windbreaklaw08.RationalBetween", spec := "rationalBetween", inPlace := ["math/bits.Add64", "math/bits.Sub64"], unfollowed := true, recurses := true, named := ["math/bits.divideError", "math/bits.overflowError"], apart := false, narrowed := true }
def RationalBetweenUptoSaid : Prop := rationalBetweenUptoRow.holds Try.pinned (OpenSpec.upto rationalBetweenSpec)

/-- 'windbreaklaw08.RationalAround', WHERE WHAT IT READS IS OF BULK AT MOST 1048576: true; the input reads as it did. -/
def rationalAroundUptoRow : OpenClaim := { program := "ytkkbcdndkbicbaa", sum := "e445408f3ff97a1e19e4135b69f37abe0e3d85ddce701565022f515746bf73b7", func := "windbreak/windbreaklaw08.RationalAround", spec := "rationalAround", inPlace := ["math/bits.Add64", "math/bits.Sub64"], unfollowed := true, recurses := true, named := ["math/bits.divideError", "math/bits.overflowError"], apart := false, narrowed := true }
def RationalAroundUptoSaid : Prop := rationalAroundUptoRow.holds Try.pinned (OpenSpec.upto rationalAroundSpec)

/-- 'windbreaklaw17.GainSplits', WHERE WHAT IT READS IS OF BULK AT MOST 1048576: true; the input reads as it did. -/
def gainSplitsUptoRow : OpenClaim := { program := "ytkkbcdndkbicbaa", sum := "e445408f3ff97a1e19e4135b69f37abe0e3d85ddce701565022f515746bf73b7", func := "windbreak/windbreaklaw17.GainSplits", spec := "gainSplits", inPlace := ["math/bits.Add64", "math/bits.Sub64"], unfollowed := true, recurses := true, named := ["math/bits.divideError", "math/bits.overflowError"], apart := false, narrowed := true }
def GainSplitsUptoSaid : Prop := gainSplitsUptoRow.holds Try.pinned (OpenSpec.upto gainSplitsSpec)

/-- 'windbreaklaw17.GainBoth', WHERE WHAT IT READS IS OF BULK AT MOST 1048576: true; the input reads as it did. -/
def gainBothUptoRow : OpenClaim := { program := "ytkkbcdndkbicbaa", sum := "e445408f3ff97a1e19e4135b69f37abe0e3d85ddce701565022f515746bf73b7", func := "windbreak/windbreaklaw17.GainBoth", spec := "gainBoth", inPlace := ["math/bits.Add64", "math/bits.Sub64"], unfollowed := true, recurses := true, named := ["math/bits.divideError", "math/bits.overflowError"], apart := false, narrowed := true }
def GainBothUptoSaid : Prop := gainBothUptoRow.holds Try.pinned (OpenSpec.upto gainBothSpec)

/-- 'windbreaklaw17.GainTurned', WHERE WHAT IT READS IS OF BULK AT MOST 1048576: true; the input reads as it did. -/
def gainTurnedUptoRow : OpenClaim := { program := "ytkkbcdndkbicbaa", sum := "e445408f3ff97a1e19e4135b69f37abe0e3d85ddce701565022f515746bf73b7", func := "windbreak/windbreaklaw17.GainTurned", spec := "gainTurned", inPlace := ["math/bits.Add64", "math/bits.Sub64"], unfollowed := true, recurses := true, named := ["math/bits.divideError", "math/bits.overflowError"], apart := false, narrowed := true }
def GainTurnedUptoSaid : Prop := gainTurnedUptoRow.holds Try.pinned (OpenSpec.upto gainTurnedSpec)

end Rows
end Go.Proofs.Ytkkbcdndkbicbaa
