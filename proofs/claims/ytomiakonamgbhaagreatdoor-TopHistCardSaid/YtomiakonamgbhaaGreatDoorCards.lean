/-
  DERIVED. GIVEN WITH THE SEED: THE CARDS: each row of YtomiakonamgbhaaGreatDoorRows.lean that lists a variable, with what it lists TIED to the program's text (the seventh form; the later family's looks); each row that meets fmt, with fmt's text TOLD by the authors' own Lean function (tested against real Go, not proved from fmt's source: count such statements apart). THE CARD IS WHAT COUNTS. Prove the row's statement (the work); the ties are given (YtomiakonamgbhaaGreatDoorTie.lean); close each card by the builder's one call (the guide's Derived/Test/ToyasCard.lean, 'card_holds'). Laid BY PROGRAM, IN A SANDBOX (cutbox-door.mjs). By AI agents, Wed Nov 11 2026. No macro, syntax, notation, axiom, sorry.
-/
import Derived.Test.YtomiakonamgbhaaGreatDoorRows
import GoSem.ClaimSeven
namespace Go.Proofs.YtomiakonamgbhaaGreatDoor
namespace Rows

/-- THE TIED CARD OF 'windbreaktop.TopHist'. -/
def topHistCard : Claim7 := { stood := { row := topHistRow, standIns := [], harness := (true, "cf73d8d3d8ed1290c9d3697bd17c59d95ec003950bdc2992b1a5abd3d482115e"), looks := false }, kinds := [], alts := [], laidByText := true, laidKinds := [.data], laidTests := true, laidLooks := .later }
def TopHistCardSaid : Prop := Claim7.holds Tryz.pinned (.plain (OpenSpec.ofChange topHistSpec)) topHistCard

/-- THE SECOND FORM's CARD OF 'windbreaktop.TopHist'. -/
def topHistUptoCard : Claim7 := { stood := { row := topHistUptoRow, standIns := [], harness := (true, "cf73d8d3d8ed1290c9d3697bd17c59d95ec003950bdc2992b1a5abd3d482115e"), looks := false }, kinds := [], alts := [], laidByText := true, laidKinds := [.data], laidTests := true, laidLooks := .later }
def TopHistUptoCardSaid : Prop := Claim7.holds Tryz.pinned (.plain (OpenSpec.upto topHistSpec)) topHistUptoCard
end Rows
end Go.Proofs.YtomiakonamgbhaaGreatDoor
