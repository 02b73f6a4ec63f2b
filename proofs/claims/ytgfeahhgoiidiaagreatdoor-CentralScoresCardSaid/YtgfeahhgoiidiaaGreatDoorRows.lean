/-
  NARROWER THAN 'FOR EVERY INPUT', by the rows' own cells (each row's printed sentence says how): CentralTrains: laid · CentralTurned: laid · CentralEvals: laid · CentralScores: laid · CentralRights: laid.
  DERIVED. THE GIVEN ROWS OF THIS SEAT. 5 by the template 'for every input the law returns true; each argument reads behind the call as it read before'; 0 by the template 'total and deterministic' (their statements: YtgfeahhgoiidiaaGreatDoorTotals.lean).
  GIVEN WITH THE SEED: the statements are not yours to turn. If you find one false, say at which input.
  Laid BY PROGRAM, IN A SANDBOX (cutbox-rows.mjs): the forced cells as the released guide's own fill.sh prints them over the translation 53ef77c1fb61fda3… (all of the seat's roots in one cut). By AI agents, Wed Nov 11 2026. No macro, syntax, notation, axiom, sorry.
-/
import Derived.Test.YtgfeahhgoiidiaaGreatDoorChecked
import GoSem.Claim
import GoSem.ClaimJoined
import GoSem.ClaimMapViews
import Derived.JoinedTies
import Derived.KernelRfl
namespace Go.Proofs.YtgfeahhgoiidiaaGreatDoor
/- THE CELL 'sum', in the pinned program and in every row, IS THE sha256 OF THE DUMP (.gsa) THAT YtgfeahhgoiidiaaGreatDoorProg.lean LOADS. Nothing in Lean hashes anything: it is a label: what it is worth is what the hold of that sum in a sandbox is worth. -/
noncomputable def Tryz.pinned : Pinned := { name := "ytgfeahhgoiidiaagreatdoor", sum := "53ef77c1fb61fda355f81515fff4ced87b3bd8f84d5067db2cf03185ef241cb9", checked := Tryz.checked }
namespace Rows
def none {H : Type} : Left H := { results := [], args := [] }

/- WHAT THE LISTED PACKAGE-LEVEL VARIABLES READ AS WHEN THE CALL BEGINS. Each datum BY PROGRAM (the guide's laid-datum.mjs) off the statement by which the dump's own 'gosem.cut.vars' lays the variable. In a bare row this is a premise. The card (YtgfeahhgoiidiaaGreatDoorCards.lean) ties it to the program's text. -/
def laid_math_bits_deBruijn64tab {H : Type} : DataW H := .agg [.lit (.int .u8 0), .lit (.int .u8 1), .lit (.int .u8 56), .lit (.int .u8 2), .lit (.int .u8 57), .lit (.int .u8 49), .lit (.int .u8 28), .lit (.int .u8 3), .lit (.int .u8 61), .lit (.int .u8 58), .lit (.int .u8 42), .lit (.int .u8 50), .lit (.int .u8 38), .lit (.int .u8 29), .lit (.int .u8 17), .lit (.int .u8 4), .lit (.int .u8 62), .lit (.int .u8 47), .lit (.int .u8 59), .lit (.int .u8 36), .lit (.int .u8 45), .lit (.int .u8 43), .lit (.int .u8 51), .lit (.int .u8 22), .lit (.int .u8 53), .lit (.int .u8 39), .lit (.int .u8 33), .lit (.int .u8 30), .lit (.int .u8 24), .lit (.int .u8 18), .lit (.int .u8 12), .lit (.int .u8 5), .lit (.int .u8 63), .lit (.int .u8 55), .lit (.int .u8 48), .lit (.int .u8 27), .lit (.int .u8 60), .lit (.int .u8 41), .lit (.int .u8 37), .lit (.int .u8 16), .lit (.int .u8 46), .lit (.int .u8 35), .lit (.int .u8 44), .lit (.int .u8 21), .lit (.int .u8 52), .lit (.int .u8 32), .lit (.int .u8 23), .lit (.int .u8 11), .lit (.int .u8 54), .lit (.int .u8 26), .lit (.int .u8 40), .lit (.int .u8 15), .lit (.int .u8 34), .lit (.int .u8 20), .lit (.int .u8 31), .lit (.int .u8 10), .lit (.int .u8 25), .lit (.int .u8 14), .lit (.int .u8 19), .lit (.int .u8 9), .lit (.int .u8 13), .lit (.int .u8 8), .lit (.int .u8 7), .lit (.int .u8 6)]

/-- 'windbreaklaw18.CentralTrains': WHATEVER THE INPUT: true; the input reads as it did. -/
def centralTrainsSpec : ChangeSpec := { name := "centralTrains", fn := fun _ => fun
  | [d1, d2, d3] => { results := [.lit (.bool true)], args := [d1, d2, d3] }
  | _ => none }
def centralTrainsRow : OpenClaim := { program := "ytgfeahhgoiidiaagreatdoor", sum := "53ef77c1fb61fda355f81515fff4ced87b3bd8f84d5067db2cf03185ef241cb9", func := "windbreak/windbreaklaw18.CentralTrains", spec := "centralTrains", inPlace := ["math/bits.Add64", "math/bits.Sub64"], unfollowed := true, recurses := true, named := ["math/bits.deBruijn64tab", "math/bits.divideError", "math/bits.overflowError"], apart := false, laid := [("math/bits.deBruijn64tab", laid_math_bits_deBruijn64tab)] }
def CentralTrainsSaid : Prop := centralTrainsRow.holds Tryz.pinned (OpenSpec.ofChange centralTrainsSpec)

/-- ITS FALSE NEIGHBOUR: 'it returns false'. Refute it at one input. -/
def centralTrainsWrong : ChangeSpec := { name := "centralTrains", fn := fun _ => fun
  | [d1, d2, d3] => { results := [.lit (.bool false)], args := [d1, d2, d3] }
  | _ => none }
def CentralTrainsWrongFalsely : Prop := centralTrainsRow.holds Tryz.pinned (OpenSpec.ofChange centralTrainsWrong)

/-- 'windbreaklaw18.CentralTurned': WHATEVER THE INPUT: true; the input reads as it did. -/
def centralTurnedSpec : ChangeSpec := { name := "centralTurned", fn := fun _ => fun
  | [d1, d2, d3] => { results := [.lit (.bool true)], args := [d1, d2, d3] }
  | _ => none }
def centralTurnedRow : OpenClaim := { program := "ytgfeahhgoiidiaagreatdoor", sum := "53ef77c1fb61fda355f81515fff4ced87b3bd8f84d5067db2cf03185ef241cb9", func := "windbreak/windbreaklaw18.CentralTurned", spec := "centralTurned", inPlace := ["math/bits.Add64", "math/bits.Sub64"], unfollowed := true, recurses := true, named := ["math/bits.deBruijn64tab", "math/bits.divideError", "math/bits.overflowError"], apart := false, laid := [("math/bits.deBruijn64tab", laid_math_bits_deBruijn64tab)] }
def CentralTurnedSaid : Prop := centralTurnedRow.holds Tryz.pinned (OpenSpec.ofChange centralTurnedSpec)

/-- ITS FALSE NEIGHBOUR: 'it returns false'. Refute it at one input. -/
def centralTurnedWrong : ChangeSpec := { name := "centralTurned", fn := fun _ => fun
  | [d1, d2, d3] => { results := [.lit (.bool false)], args := [d1, d2, d3] }
  | _ => none }
def CentralTurnedWrongFalsely : Prop := centralTurnedRow.holds Tryz.pinned (OpenSpec.ofChange centralTurnedWrong)

/-- 'windbreaklaw18.CentralEvals': WHATEVER THE INPUT: true; the input reads as it did. -/
def centralEvalsSpec : ChangeSpec := { name := "centralEvals", fn := fun _ => fun
  | [d1, d2] => { results := [.lit (.bool true)], args := [d1, d2] }
  | _ => none }
def centralEvalsRow : OpenClaim := { program := "ytgfeahhgoiidiaagreatdoor", sum := "53ef77c1fb61fda355f81515fff4ced87b3bd8f84d5067db2cf03185ef241cb9", func := "windbreak/windbreaklaw18.CentralEvals", spec := "centralEvals", inPlace := ["math/bits.Add64", "math/bits.Sub64"], unfollowed := true, recurses := true, named := ["math/bits.deBruijn64tab", "math/bits.divideError", "math/bits.overflowError"], apart := false, laid := [("math/bits.deBruijn64tab", laid_math_bits_deBruijn64tab)] }
def CentralEvalsSaid : Prop := centralEvalsRow.holds Tryz.pinned (OpenSpec.ofChange centralEvalsSpec)

/-- ITS FALSE NEIGHBOUR: 'it returns false'. Refute it at one input. -/
def centralEvalsWrong : ChangeSpec := { name := "centralEvals", fn := fun _ => fun
  | [d1, d2] => { results := [.lit (.bool false)], args := [d1, d2] }
  | _ => none }
def CentralEvalsWrongFalsely : Prop := centralEvalsRow.holds Tryz.pinned (OpenSpec.ofChange centralEvalsWrong)

/-- 'windbreaklaw18.CentralScores': WHATEVER THE INPUT: true; the input reads as it did. -/
def centralScoresSpec : ChangeSpec := { name := "centralScores", fn := fun _ => fun
  | [d1, d2, d3] => { results := [.lit (.bool true)], args := [d1, d2, d3] }
  | _ => none }
def centralScoresRow : OpenClaim := { program := "ytgfeahhgoiidiaagreatdoor", sum := "53ef77c1fb61fda355f81515fff4ced87b3bd8f84d5067db2cf03185ef241cb9", func := "windbreak/windbreaklaw18.CentralScores", spec := "centralScores", inPlace := ["math/bits.Add64", "math/bits.Sub64"], unfollowed := true, recurses := true, named := ["math/bits.deBruijn64tab", "math/bits.divideError", "math/bits.overflowError"], apart := false, laid := [("math/bits.deBruijn64tab", laid_math_bits_deBruijn64tab)] }
def CentralScoresSaid : Prop := centralScoresRow.holds Tryz.pinned (OpenSpec.ofChange centralScoresSpec)

/-- ITS FALSE NEIGHBOUR: 'it returns false'. Refute it at one input. -/
def centralScoresWrong : ChangeSpec := { name := "centralScores", fn := fun _ => fun
  | [d1, d2, d3] => { results := [.lit (.bool false)], args := [d1, d2, d3] }
  | _ => none }
def CentralScoresWrongFalsely : Prop := centralScoresRow.holds Tryz.pinned (OpenSpec.ofChange centralScoresWrong)

/-- 'windbreaklaw18.CentralRights': WHATEVER THE INPUT: true; the input reads as it did. -/
def centralRightsSpec : ChangeSpec := { name := "centralRights", fn := fun _ => fun
  | [d] => { results := [.lit (.bool true)], args := [d] }
  | _ => none }
def centralRightsRow : OpenClaim := { program := "ytgfeahhgoiidiaagreatdoor", sum := "53ef77c1fb61fda355f81515fff4ced87b3bd8f84d5067db2cf03185ef241cb9", func := "windbreak/windbreaklaw18.CentralRights", spec := "centralRights", inPlace := ["math/bits.Add64", "math/bits.Sub64"], unfollowed := true, recurses := true, named := ["math/bits.deBruijn64tab", "math/bits.divideError", "math/bits.overflowError"], apart := false, laid := [("math/bits.deBruijn64tab", laid_math_bits_deBruijn64tab)] }
def CentralRightsSaid : Prop := centralRightsRow.holds Tryz.pinned (OpenSpec.ofChange centralRightsSpec)

/-- ITS FALSE NEIGHBOUR: 'it returns false'. Refute it at one input. -/
def centralRightsWrong : ChangeSpec := { name := "centralRights", fn := fun _ => fun
  | [d] => { results := [.lit (.bool false)], args := [d] }
  | _ => none }
def CentralRightsWrongFalsely : Prop := centralRightsRow.holds Tryz.pinned (OpenSpec.ofChange centralRightsWrong)

/- THE SECOND FORM. 'bulk': how many values and letters a reading holds, each counted each time it is reached (what is shared counts as often as it is met; a slice's spare places count too). A statement '..UptoSaid' is the law's where the arguments, and the package variables that the reading takes, are together of bulk at most 1048576: NARROWER than '..Said'. Prove '..Said' where nothing that the law and all that it calls make is longer than what came in: it says more and counts as full. Else prove '..UptoSaid'. A law counts once. -/
mutual
def uptoBulk {H : Type} : DataW H → Nat
  | .lit (.string bytes) => bytes.length + 1
  | .lit _ => 1
  | .nil => 1
  | .ptr d => uptoBulk d + 1
  | .slice elems spare => uptoBulkAll elems + uptoBulkAll spare + 1
  | .agg parts => uptoBulkAll parts + 1
  | .iface _ d => uptoBulk d + 1
  | .map entries => uptoBulkEntries entries + 1
  | .held _ => 1
def uptoBulkAll {H : Type} : List (DataW H) → Nat
  | [] => 0
  | d :: r => uptoBulk d + uptoBulkAll r
def uptoBulkEntries {H : Type} : List (Lit × DataW H) → Nat
  | [] => 0
  | x :: r => uptoBulkEntry x + uptoBulkEntries r
def uptoBulkEntry {H : Type} : Lit × DataW H → Nat
  | (.string bytes, d) => bytes.length + uptoBulk d + 1
  | (_, d) => uptoBulk d + 1
 end
def uptoSmall : (H : Type) → List (DataW H) → Bool := fun _ ds => decide (uptoBulkAll ds ≤ 1048576)
def OpenSpec.upto (s : _root_.Go.ChangeSpec) : _root_.Go.OpenSpec := { _root_.Go.OpenSpec.ofChange s with cond := some uptoSmall }

/-- 'windbreaklaw18.CentralTrains', WHERE WHAT IT READS IS OF BULK AT MOST 1048576: true; the input reads as it did. -/
def centralTrainsUptoRow : OpenClaim := { program := "ytgfeahhgoiidiaagreatdoor", sum := "53ef77c1fb61fda355f81515fff4ced87b3bd8f84d5067db2cf03185ef241cb9", func := "windbreak/windbreaklaw18.CentralTrains", spec := "centralTrains", inPlace := ["math/bits.Add64", "math/bits.Sub64"], unfollowed := true, recurses := true, named := ["math/bits.deBruijn64tab", "math/bits.divideError", "math/bits.overflowError"], apart := false, laid := [("math/bits.deBruijn64tab", laid_math_bits_deBruijn64tab)], narrowed := true }
def CentralTrainsUptoSaid : Prop := centralTrainsUptoRow.holds Tryz.pinned (OpenSpec.upto centralTrainsSpec)

/-- 'windbreaklaw18.CentralTurned', WHERE WHAT IT READS IS OF BULK AT MOST 1048576: true; the input reads as it did. -/
def centralTurnedUptoRow : OpenClaim := { program := "ytgfeahhgoiidiaagreatdoor", sum := "53ef77c1fb61fda355f81515fff4ced87b3bd8f84d5067db2cf03185ef241cb9", func := "windbreak/windbreaklaw18.CentralTurned", spec := "centralTurned", inPlace := ["math/bits.Add64", "math/bits.Sub64"], unfollowed := true, recurses := true, named := ["math/bits.deBruijn64tab", "math/bits.divideError", "math/bits.overflowError"], apart := false, laid := [("math/bits.deBruijn64tab", laid_math_bits_deBruijn64tab)], narrowed := true }
def CentralTurnedUptoSaid : Prop := centralTurnedUptoRow.holds Tryz.pinned (OpenSpec.upto centralTurnedSpec)

/-- 'windbreaklaw18.CentralEvals', WHERE WHAT IT READS IS OF BULK AT MOST 1048576: true; the input reads as it did. -/
def centralEvalsUptoRow : OpenClaim := { program := "ytgfeahhgoiidiaagreatdoor", sum := "53ef77c1fb61fda355f81515fff4ced87b3bd8f84d5067db2cf03185ef241cb9", func := "windbreak/windbreaklaw18.CentralEvals", spec := "centralEvals", inPlace := ["math/bits.Add64", "math/bits.Sub64"], unfollowed := true, recurses := true, named := ["math/bits.deBruijn64tab", "math/bits.divideError", "math/bits.overflowError"], apart := false, laid := [("math/bits.deBruijn64tab", laid_math_bits_deBruijn64tab)], narrowed := true }
def CentralEvalsUptoSaid : Prop := centralEvalsUptoRow.holds Tryz.pinned (OpenSpec.upto centralEvalsSpec)

/-- 'windbreaklaw18.CentralScores', WHERE WHAT IT READS IS OF BULK AT MOST 1048576: true; the input reads as it did. -/
def centralScoresUptoRow : OpenClaim := { program := "ytgfeahhgoiidiaagreatdoor", sum := "53ef77c1fb61fda355f81515fff4ced87b3bd8f84d5067db2cf03185ef241cb9", func := "windbreak/windbreaklaw18.CentralScores", spec := "centralScores", inPlace := ["math/bits.Add64", "math/bits.Sub64"], unfollowed := true, recurses := true, named := ["math/bits.deBruijn64tab", "math/bits.divideError", "math/bits.overflowError"], apart := false, laid := [("math/bits.deBruijn64tab", laid_math_bits_deBruijn64tab)], narrowed := true }
def CentralScoresUptoSaid : Prop := centralScoresUptoRow.holds Tryz.pinned (OpenSpec.upto centralScoresSpec)

/-- 'windbreaklaw18.CentralRights', WHERE WHAT IT READS IS OF BULK AT MOST 1048576: true; the input reads as it did. -/
def centralRightsUptoRow : OpenClaim := { program := "ytgfeahhgoiidiaagreatdoor", sum := "53ef77c1fb61fda355f81515fff4ced87b3bd8f84d5067db2cf03185ef241cb9", func := "windbreak/windbreaklaw18.CentralRights", spec := "centralRights", inPlace := ["math/bits.Add64", "math/bits.Sub64"], unfollowed := true, recurses := true, named := ["math/bits.deBruijn64tab", "math/bits.divideError", "math/bits.overflowError"], apart := false, laid := [("math/bits.deBruijn64tab", laid_math_bits_deBruijn64tab)], narrowed := true }
def CentralRightsUptoSaid : Prop := centralRightsUptoRow.holds Tryz.pinned (OpenSpec.upto centralRightsSpec)

end Rows
end Go.Proofs.YtgfeahhgoiidiaaGreatDoor
