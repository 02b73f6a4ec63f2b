/-
  DERIVED. GIVEN WITH THE SEED: THE CARDS: each row of YtndomkpijjibiaaGreatDoorRows.lean that lists a variable, with what it lists TIED to the program's text (the seventh form; the later family's looks); each row that meets fmt, with fmt's text TOLD by the authors' own Lean function (tested against real Go, not proved from fmt's source: count such statements apart). THE CARD IS WHAT COUNTS. Prove the row's statement (the work); the ties are given (YtndomkpijjibiaaGreatDoorTie.lean); close each card by the builder's one call (the guide's Derived/Test/ToyasCard.lean, 'card_holds'). Laid BY PROGRAM, IN A SANDBOX (cutbox-door.mjs). By AI agents, Wed Nov 11 2026. No macro, syntax, notation, axiom, sorry.
-/
import Derived.Test.YtndomkpijjibiaaGreatDoorRows
import GoSem.ClaimSeven
namespace Go.Proofs.YtndomkpijjibiaaGreatDoor
namespace Rows

/-- THE TIED CARD OF 'windbreaklaw23.PredictJoint'. -/
def predictJointCard : Claim7 := { stood := { row := predictJointRow, standIns := [], harness := (true, "b2953d43bc2c77446cee72c6bbd8ae5534e9934cb626838042e2bb0c76c88434"), looks := false }, kinds := [], alts := [], laidByText := true, laidKinds := [.data], laidTests := true, laidLooks := .later }
def PredictJointCardSaid : Prop := Claim7.holds Tryz.pinned (.plain (OpenSpec.ofChange predictJointSpec)) predictJointCard

/-- THE SECOND FORM's CARD OF 'windbreaklaw23.PredictJoint'. -/
def predictJointUptoCard : Claim7 := { stood := { row := predictJointUptoRow, standIns := [], harness := (true, "b2953d43bc2c77446cee72c6bbd8ae5534e9934cb626838042e2bb0c76c88434"), looks := false }, kinds := [], alts := [], laidByText := true, laidKinds := [.data], laidTests := true, laidLooks := .later }
def PredictJointUptoCardSaid : Prop := Claim7.holds Tryz.pinned (.plain (OpenSpec.upto predictJointSpec)) predictJointUptoCard
end Rows
end Go.Proofs.YtndomkpijjibiaaGreatDoor
