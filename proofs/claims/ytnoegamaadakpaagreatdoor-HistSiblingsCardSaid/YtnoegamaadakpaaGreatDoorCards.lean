/-
  DERIVED. GIVEN WITH THE SEED: THE CARDS: each row of YtnoegamaadakpaaGreatDoorRows.lean that lists a variable, with what it lists TIED to the program's text (the seventh form; the later family's looks); each row that meets fmt, with fmt's text TOLD by the authors' own Lean function (tested against real Go, not proved from fmt's source: count such statements apart). THE CARD IS WHAT COUNTS. Prove the row's statement (the work); the ties are given (YtnoegamaadakpaaGreatDoorTie.lean); close each card by the builder's one call (the guide's Derived/Test/ToyasCard.lean, 'card_holds'). Laid BY PROGRAM, IN A SANDBOX (cutbox-door.mjs). By AI agents, Wed Nov 11 2026. No macro, syntax, notation, axiom, sorry.
-/
import Derived.Test.YtnoegamaadakpaaGreatDoorRows
import GoSem.ClaimSeven
namespace Go.Proofs.YtnoegamaadakpaaGreatDoor
namespace Rows

/-- THE TIED CARD OF 'windbreaklaw19.HistHides'. -/
def histHidesCard : Claim7 := { stood := { row := histHidesRow, standIns := [], harness := (true, "c7c89c1eaf20e5c356e9319fa650481a9328a925c5a8ee0e88f10088d0b46c0d"), looks := false }, kinds := [], alts := [], laidByText := true, laidKinds := [.data], laidTests := true, laidLooks := .later }
def HistHidesCardSaid : Prop := Claim7.holds Tryz.pinned (.plain (OpenSpec.ofChange histHidesSpec)) histHidesCard

/-- THE TIED CARD OF 'windbreaklaw19.HistSiblings'. -/
def histSiblingsCard : Claim7 := { stood := { row := histSiblingsRow, standIns := [], harness := (true, "c7c89c1eaf20e5c356e9319fa650481a9328a925c5a8ee0e88f10088d0b46c0d"), looks := false }, kinds := [], alts := [], laidByText := true, laidKinds := [.data], laidTests := true, laidLooks := .later }
def HistSiblingsCardSaid : Prop := Claim7.holds Tryz.pinned (.plain (OpenSpec.ofChange histSiblingsSpec)) histSiblingsCard

/-- THE SECOND FORM's CARD OF 'windbreaklaw19.HistHides'. -/
def histHidesUptoCard : Claim7 := { stood := { row := histHidesUptoRow, standIns := [], harness := (true, "c7c89c1eaf20e5c356e9319fa650481a9328a925c5a8ee0e88f10088d0b46c0d"), looks := false }, kinds := [], alts := [], laidByText := true, laidKinds := [.data], laidTests := true, laidLooks := .later }
def HistHidesUptoCardSaid : Prop := Claim7.holds Tryz.pinned (.plain (OpenSpec.upto histHidesSpec)) histHidesUptoCard

/-- THE SECOND FORM's CARD OF 'windbreaklaw19.HistSiblings'. -/
def histSiblingsUptoCard : Claim7 := { stood := { row := histSiblingsUptoRow, standIns := [], harness := (true, "c7c89c1eaf20e5c356e9319fa650481a9328a925c5a8ee0e88f10088d0b46c0d"), looks := false }, kinds := [], alts := [], laidByText := true, laidKinds := [.data], laidTests := true, laidLooks := .later }
def HistSiblingsUptoCardSaid : Prop := Claim7.holds Tryz.pinned (.plain (OpenSpec.upto histSiblingsSpec)) histSiblingsUptoCard
end Rows
end Go.Proofs.YtnoegamaadakpaaGreatDoor
