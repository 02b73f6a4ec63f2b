/-
  DERIVED. GIVEN WITH THE SEED: THE CARDS: each row of YtkcloajajkchiaaDoorRows.lean that lists a variable, with what it lists TIED to the program's text (the seventh form; the later family's looks); each row that meets fmt, with fmt's text TOLD by the authors' own Lean function (tested against real Go, not proved from fmt's source: count such statements apart). THE CARD IS WHAT COUNTS. Prove the row's statement (the work); the ties are given (YtkcloajajkchiaaDoorTie.lean); close each card by the builder's one call (the guide's Derived/Test/ToyasCard.lean, 'card_holds'). Laid BY PROGRAM, IN A SANDBOX (cutbox-door.mjs). By AI agents, Wed Nov 11 2026. No macro, syntax, notation, axiom, sorry.
-/
import Derived.Test.YtkcloajajkchiaaDoorRows
import GoSem.ClaimSeven
namespace Go.Proofs.YtkcloajajkchiaaDoor
namespace Rows

/-- THE TIED CARD OF 'windbreaklaw19.HistPlain'. -/
def histPlainCard : Claim7 := { stood := { row := histPlainRow, standIns := [], harness := (true, "edb9594ae9575598ccaf76361d5affd96aa93829502a5f7fc8d4b91744a757ef"), looks := false }, kinds := [], alts := [], laidByText := true, laidKinds := [.data], laidTests := true, laidLooks := .later }
def HistPlainCardSaid : Prop := Claim7.holds Tryd.pinned (.plain (OpenSpec.ofChange histPlainSpec)) histPlainCard

/-- THE SECOND FORM's CARD OF 'windbreaklaw19.HistPlain'. -/
def histPlainUptoCard : Claim7 := { stood := { row := histPlainUptoRow, standIns := [], harness := (true, "edb9594ae9575598ccaf76361d5affd96aa93829502a5f7fc8d4b91744a757ef"), looks := false }, kinds := [], alts := [], laidByText := true, laidKinds := [.data], laidTests := true, laidLooks := .later }
def HistPlainUptoCardSaid : Prop := Claim7.holds Tryd.pinned (.plain (OpenSpec.upto histPlainSpec)) histPlainUptoCard
end Rows
end Go.Proofs.YtkcloajajkchiaaDoor
