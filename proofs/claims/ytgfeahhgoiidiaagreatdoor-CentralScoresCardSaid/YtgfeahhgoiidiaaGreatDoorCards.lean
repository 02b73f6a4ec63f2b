/-
  DERIVED. GIVEN WITH THE SEED: THE CARDS: each row of YtgfeahhgoiidiaaGreatDoorRows.lean that lists a variable, with what it lists TIED to the program's text (the seventh form; the later family's looks); each row that meets fmt, with fmt's text TOLD by the authors' own Lean function (tested against real Go, not proved from fmt's source: count such statements apart). THE CARD IS WHAT COUNTS. Prove the row's statement (the work); the ties are given (YtgfeahhgoiidiaaGreatDoorTie.lean); close each card by the builder's one call (the guide's Derived/Test/ToyasCard.lean, 'card_holds'). Laid BY PROGRAM, IN A SANDBOX (cutbox-door.mjs). By AI agents, Wed Nov 11 2026. No macro, syntax, notation, axiom, sorry.
-/
import Derived.Test.YtgfeahhgoiidiaaGreatDoorRows
import GoSem.ClaimSeven
namespace Go.Proofs.YtgfeahhgoiidiaaGreatDoor
namespace Rows

/-- THE TIED CARD OF 'windbreaklaw18.CentralTrains'. -/
def centralTrainsCard : Claim7 := { stood := { row := centralTrainsRow, standIns := [], harness := (true, "c15fc943c8b4fdc75931b202a9ddc12c643ded27f0a7c146ee2fef68591feeae"), looks := true }, kinds := [], alts := [], laidByText := true, laidKinds := [.data], laidTests := true, laidLooks := .later }
def CentralTrainsCardSaid : Prop := Claim7.holds Tryz.pinned (.plain (OpenSpec.ofChange centralTrainsSpec)) centralTrainsCard

/-- THE TIED CARD OF 'windbreaklaw18.CentralTurned'. -/
def centralTurnedCard : Claim7 := { stood := { row := centralTurnedRow, standIns := [], harness := (true, "c15fc943c8b4fdc75931b202a9ddc12c643ded27f0a7c146ee2fef68591feeae"), looks := true }, kinds := [], alts := [], laidByText := true, laidKinds := [.data], laidTests := true, laidLooks := .later }
def CentralTurnedCardSaid : Prop := Claim7.holds Tryz.pinned (.plain (OpenSpec.ofChange centralTurnedSpec)) centralTurnedCard

/-- THE TIED CARD OF 'windbreaklaw18.CentralEvals'. -/
def centralEvalsCard : Claim7 := { stood := { row := centralEvalsRow, standIns := [], harness := (true, "c15fc943c8b4fdc75931b202a9ddc12c643ded27f0a7c146ee2fef68591feeae"), looks := true }, kinds := [], alts := [], laidByText := true, laidKinds := [.data], laidTests := true, laidLooks := .later }
def CentralEvalsCardSaid : Prop := Claim7.holds Tryz.pinned (.plain (OpenSpec.ofChange centralEvalsSpec)) centralEvalsCard

/-- THE TIED CARD OF 'windbreaklaw18.CentralScores'. -/
def centralScoresCard : Claim7 := { stood := { row := centralScoresRow, standIns := [], harness := (true, "c15fc943c8b4fdc75931b202a9ddc12c643ded27f0a7c146ee2fef68591feeae"), looks := true }, kinds := [], alts := [], laidByText := true, laidKinds := [.data], laidTests := true, laidLooks := .later }
def CentralScoresCardSaid : Prop := Claim7.holds Tryz.pinned (.plain (OpenSpec.ofChange centralScoresSpec)) centralScoresCard

/-- THE TIED CARD OF 'windbreaklaw18.CentralRights'. -/
def centralRightsCard : Claim7 := { stood := { row := centralRightsRow, standIns := [], harness := (true, "c15fc943c8b4fdc75931b202a9ddc12c643ded27f0a7c146ee2fef68591feeae"), looks := true }, kinds := [], alts := [], laidByText := true, laidKinds := [.data], laidTests := true, laidLooks := .later }
def CentralRightsCardSaid : Prop := Claim7.holds Tryz.pinned (.plain (OpenSpec.ofChange centralRightsSpec)) centralRightsCard

/-- THE SECOND FORM's CARD OF 'windbreaklaw18.CentralTrains'. -/
def centralTrainsUptoCard : Claim7 := { stood := { row := centralTrainsUptoRow, standIns := [], harness := (true, "c15fc943c8b4fdc75931b202a9ddc12c643ded27f0a7c146ee2fef68591feeae"), looks := true }, kinds := [], alts := [], laidByText := true, laidKinds := [.data], laidTests := true, laidLooks := .later }
def CentralTrainsUptoCardSaid : Prop := Claim7.holds Tryz.pinned (.plain (OpenSpec.upto centralTrainsSpec)) centralTrainsUptoCard

/-- THE SECOND FORM's CARD OF 'windbreaklaw18.CentralTurned'. -/
def centralTurnedUptoCard : Claim7 := { stood := { row := centralTurnedUptoRow, standIns := [], harness := (true, "c15fc943c8b4fdc75931b202a9ddc12c643ded27f0a7c146ee2fef68591feeae"), looks := true }, kinds := [], alts := [], laidByText := true, laidKinds := [.data], laidTests := true, laidLooks := .later }
def CentralTurnedUptoCardSaid : Prop := Claim7.holds Tryz.pinned (.plain (OpenSpec.upto centralTurnedSpec)) centralTurnedUptoCard

/-- THE SECOND FORM's CARD OF 'windbreaklaw18.CentralEvals'. -/
def centralEvalsUptoCard : Claim7 := { stood := { row := centralEvalsUptoRow, standIns := [], harness := (true, "c15fc943c8b4fdc75931b202a9ddc12c643ded27f0a7c146ee2fef68591feeae"), looks := true }, kinds := [], alts := [], laidByText := true, laidKinds := [.data], laidTests := true, laidLooks := .later }
def CentralEvalsUptoCardSaid : Prop := Claim7.holds Tryz.pinned (.plain (OpenSpec.upto centralEvalsSpec)) centralEvalsUptoCard

/-- THE SECOND FORM's CARD OF 'windbreaklaw18.CentralScores'. -/
def centralScoresUptoCard : Claim7 := { stood := { row := centralScoresUptoRow, standIns := [], harness := (true, "c15fc943c8b4fdc75931b202a9ddc12c643ded27f0a7c146ee2fef68591feeae"), looks := true }, kinds := [], alts := [], laidByText := true, laidKinds := [.data], laidTests := true, laidLooks := .later }
def CentralScoresUptoCardSaid : Prop := Claim7.holds Tryz.pinned (.plain (OpenSpec.upto centralScoresSpec)) centralScoresUptoCard

/-- THE SECOND FORM's CARD OF 'windbreaklaw18.CentralRights'. -/
def centralRightsUptoCard : Claim7 := { stood := { row := centralRightsUptoRow, standIns := [], harness := (true, "c15fc943c8b4fdc75931b202a9ddc12c643ded27f0a7c146ee2fef68591feeae"), looks := true }, kinds := [], alts := [], laidByText := true, laidKinds := [.data], laidTests := true, laidLooks := .later }
def CentralRightsUptoCardSaid : Prop := Claim7.holds Tryz.pinned (.plain (OpenSpec.upto centralRightsSpec)) centralRightsUptoCard
end Rows
end Go.Proofs.YtgfeahhgoiidiaaGreatDoor
