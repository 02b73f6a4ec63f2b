/-
  DERIVED. GIVEN WITH THE SEED: THE CARDS: each row of YtgldlogiggpbgaaGreatDoorRows.lean that lists a variable, with what it lists TIED to the program's text (the seventh form; the later family's looks); each row that meets fmt, with fmt's text TOLD by the authors' own Lean function (tested against real Go, not proved from fmt's source: count such statements apart). THE CARD IS WHAT COUNTS. Prove the row's statement (the work); the ties are given (YtgldlogiggpbgaaGreatDoorTie.lean); close each card by the builder's one call (the guide's Derived/Test/ToyasCard.lean, 'card_holds'). Laid BY PROGRAM, IN A SANDBOX (cutbox-door.mjs). By AI agents, Wed Nov 11 2026. No macro, syntax, notation, axiom, sorry.
-/
import Derived.Test.YtgldlogiggpbgaaGreatDoorRows
import GoSem.ClaimSeven
namespace Go.Proofs.YtgldlogiggpbgaaGreatDoor
namespace Rows

/-- THE TIED CARD OF 'windbreaklaw21.PartySame'. -/
def partySameCard : Claim7 := { stood := { row := partySameRow, standIns := [], harness := (true, "8350e43f875e430f7373acc510d21599c10047885ecf47bc9db3e3e8f8504b82"), looks := false }, kinds := [], alts := [], laidByText := true, laidKinds := [.data], laidTests := true, laidLooks := .later }
def PartySameCardSaid : Prop := Claim7.holds Tryz.pinned (.plain (OpenSpec.ofChange partySameSpec)) partySameCard

/-- THE TIED CARD OF 'windbreaklaw21.PartyScripts'. -/
def partyScriptsCard : Claim7 := { stood := { row := partyScriptsRow, standIns := [], harness := (true, "8350e43f875e430f7373acc510d21599c10047885ecf47bc9db3e3e8f8504b82"), looks := false }, kinds := [], alts := [], laidByText := true, laidKinds := [.data], laidTests := true, laidLooks := .later }
def PartyScriptsCardSaid : Prop := Claim7.holds Tryz.pinned (.plain (OpenSpec.ofChange partyScriptsSpec)) partyScriptsCard

/-- THE TIED CARD OF 'windbreaklaw23.PredictReplies'. -/
def predictRepliesCard : Claim7 := { stood := { row := predictRepliesRow, standIns := [], harness := (true, "8350e43f875e430f7373acc510d21599c10047885ecf47bc9db3e3e8f8504b82"), looks := false }, kinds := [], alts := [], laidByText := true, laidKinds := [.data], laidTests := true, laidLooks := .later }
def PredictRepliesCardSaid : Prop := Claim7.holds Tryz.pinned (.plain (OpenSpec.ofChange predictRepliesSpec)) predictRepliesCard

/-- THE TIED CARD OF 'windbreaklaw21.PartyHides'. -/
def partyHidesCard : Claim7 := { stood := { row := partyHidesRow, standIns := [], harness := (true, "8350e43f875e430f7373acc510d21599c10047885ecf47bc9db3e3e8f8504b82"), looks := false }, kinds := [], alts := [], laidByText := true, laidKinds := [.data], laidTests := true, laidLooks := .later }
def PartyHidesCardSaid : Prop := Claim7.holds Tryz.pinned (.plain (OpenSpec.ofChange partyHidesSpec)) partyHidesCard

/-- THE SECOND FORM's CARD OF 'windbreaklaw21.PartySame'. -/
def partySameUptoCard : Claim7 := { stood := { row := partySameUptoRow, standIns := [], harness := (true, "8350e43f875e430f7373acc510d21599c10047885ecf47bc9db3e3e8f8504b82"), looks := false }, kinds := [], alts := [], laidByText := true, laidKinds := [.data], laidTests := true, laidLooks := .later }
def PartySameUptoCardSaid : Prop := Claim7.holds Tryz.pinned (.plain (OpenSpec.upto partySameSpec)) partySameUptoCard

/-- THE SECOND FORM's CARD OF 'windbreaklaw21.PartyScripts'. -/
def partyScriptsUptoCard : Claim7 := { stood := { row := partyScriptsUptoRow, standIns := [], harness := (true, "8350e43f875e430f7373acc510d21599c10047885ecf47bc9db3e3e8f8504b82"), looks := false }, kinds := [], alts := [], laidByText := true, laidKinds := [.data], laidTests := true, laidLooks := .later }
def PartyScriptsUptoCardSaid : Prop := Claim7.holds Tryz.pinned (.plain (OpenSpec.upto partyScriptsSpec)) partyScriptsUptoCard

/-- THE SECOND FORM's CARD OF 'windbreaklaw23.PredictReplies'. -/
def predictRepliesUptoCard : Claim7 := { stood := { row := predictRepliesUptoRow, standIns := [], harness := (true, "8350e43f875e430f7373acc510d21599c10047885ecf47bc9db3e3e8f8504b82"), looks := false }, kinds := [], alts := [], laidByText := true, laidKinds := [.data], laidTests := true, laidLooks := .later }
def PredictRepliesUptoCardSaid : Prop := Claim7.holds Tryz.pinned (.plain (OpenSpec.upto predictRepliesSpec)) predictRepliesUptoCard

/-- THE SECOND FORM's CARD OF 'windbreaklaw21.PartyHides'. -/
def partyHidesUptoCard : Claim7 := { stood := { row := partyHidesUptoRow, standIns := [], harness := (true, "8350e43f875e430f7373acc510d21599c10047885ecf47bc9db3e3e8f8504b82"), looks := false }, kinds := [], alts := [], laidByText := true, laidKinds := [.data], laidTests := true, laidLooks := .later }
def PartyHidesUptoCardSaid : Prop := Claim7.holds Tryz.pinned (.plain (OpenSpec.upto partyHidesSpec)) partyHidesUptoCard
end Rows
end Go.Proofs.YtgldlogiggpbgaaGreatDoor
