/-
  DERIVED. GIVEN WITH THE SEED: THE CARDS: each row of YthpakkpckmjhjaaGreatDoorRows.lean that lists a variable, with what it lists TIED to the program's text (the seventh form; the later family's looks); each row that meets fmt, with fmt's text TOLD by the authors' own Lean function (tested against real Go, not proved from fmt's source: count such statements apart). THE CARD IS WHAT COUNTS. Prove the row's statement (the work); the ties are given (YthpakkpckmjhjaaGreatDoorTie.lean); close each card by the builder's one call (the guide's Derived/Test/ToyasCard.lean, 'card_holds'). Laid BY PROGRAM, IN A SANDBOX (cutbox-door.mjs). By AI agents, Wed Nov 11 2026. No macro, syntax, notation, axiom, sorry.
-/
import Derived.Test.YthpakkpckmjhjaaGreatDoorRows
import GoSem.ClaimSeven
namespace Go.Proofs.YthpakkpckmjhjaaGreatDoor
namespace Rows

/-- THE TIED CARD OF 'windbreaklaw19.HistCipher'. -/
def histCipherCard : Claim7 := { stood := { row := histCipherRow, standIns := [], harness := (true, "d74bb90388331733e38a25da89c2c8404271fff9eaf44a2c615fed01b45e4c6b"), looks := false }, kinds := [], alts := [], laidByText := true, laidKinds := [.data], laidTests := true, laidLooks := .later }
def HistCipherCardSaid : Prop := Claim7.holds Tryz.pinned (.plain (OpenSpec.ofChange histCipherSpec)) histCipherCard

/-- THE TIED CARD OF 'windbreaklaw19.HistLess'. -/
def histLessCard : Claim7 := { stood := { row := histLessRow, standIns := [], harness := (true, "d74bb90388331733e38a25da89c2c8404271fff9eaf44a2c615fed01b45e4c6b"), looks := false }, kinds := [], alts := [], laidByText := true, laidKinds := [.data], laidTests := true, laidLooks := .later }
def HistLessCardSaid : Prop := Claim7.holds Tryz.pinned (.plain (OpenSpec.ofChange histLessSpec)) histLessCard

/-- THE SECOND FORM's CARD OF 'windbreaklaw19.HistCipher'. -/
def histCipherUptoCard : Claim7 := { stood := { row := histCipherUptoRow, standIns := [], harness := (true, "d74bb90388331733e38a25da89c2c8404271fff9eaf44a2c615fed01b45e4c6b"), looks := false }, kinds := [], alts := [], laidByText := true, laidKinds := [.data], laidTests := true, laidLooks := .later }
def HistCipherUptoCardSaid : Prop := Claim7.holds Tryz.pinned (.plain (OpenSpec.upto histCipherSpec)) histCipherUptoCard

/-- THE SECOND FORM's CARD OF 'windbreaklaw19.HistLess'. -/
def histLessUptoCard : Claim7 := { stood := { row := histLessUptoRow, standIns := [], harness := (true, "d74bb90388331733e38a25da89c2c8404271fff9eaf44a2c615fed01b45e4c6b"), looks := false }, kinds := [], alts := [], laidByText := true, laidKinds := [.data], laidTests := true, laidLooks := .later }
def HistLessUptoCardSaid : Prop := Claim7.holds Tryz.pinned (.plain (OpenSpec.upto histLessSpec)) histLessUptoCard
end Rows
end Go.Proofs.YthpakkpckmjhjaaGreatDoor
