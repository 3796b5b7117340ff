/-
  DERIVED. GIVEN WITH THE SEED: THE CARDS: each row of YtlnhefoegllpmaaGreatDoorRows.lean that lists a variable, with what it lists TIED to the program's text (the seventh form; the later family's looks); each row that meets fmt, with fmt's text TOLD by the authors' own Lean function (tested against real Go, not proved from fmt's source: count such statements apart). THE CARD IS WHAT COUNTS. Prove the row's statement (the work); the ties are given (YtlnhefoegllpmaaGreatDoorTie.lean); close each card by the builder's one call (the guide's Derived/Test/ToyasCard.lean, 'card_holds'). Laid BY PROGRAM, IN A SANDBOX (cutbox-door.mjs). By AI agents, Wed Nov 11 2026. No macro, syntax, notation, axiom, sorry.
-/
import Derived.Test.YtlnhefoegllpmaaGreatDoorRows
import GoSem.ClaimSeven
namespace Go.Proofs.YtlnhefoegllpmaaGreatDoor
namespace Rows

/-- THE TIED CARD OF 'skerrylaw15.DirKeeps'. -/
def dirKeepsCard : Claim7 := { stood := { row := dirKeepsRow, standIns := [], harness := (true, "651785ab30dc93d26db16c54c49f060a336a0c4e3b4037c458db547499a93fbe"), looks := false }, kinds := [], alts := [], laidByText := true, laidKinds := [.data, .pinned], laidTests := true, laidLooks := .later }
def DirKeepsCardSaid : Prop := Claim7.holds Tryz.pinned (.plain (OpenSpec.ofChange dirKeepsSpec)) dirKeepsCard

/-- THE TIED CARD OF 'skerrylaw15.DirGives'. -/
def dirGivesCard : Claim7 := { stood := { row := dirGivesRow, standIns := [], harness := (true, "651785ab30dc93d26db16c54c49f060a336a0c4e3b4037c458db547499a93fbe"), looks := false }, kinds := [], alts := [], laidByText := true, laidKinds := [.data, .pinned], laidTests := true, laidLooks := .later }
def DirGivesCardSaid : Prop := Claim7.holds Tryz.pinned (.plain (OpenSpec.ofChange dirGivesSpec)) dirGivesCard

/-- THE SECOND FORM's CARD OF 'skerrylaw15.DirKeeps'. -/
def dirKeepsUptoCard : Claim7 := { stood := { row := dirKeepsUptoRow, standIns := [], harness := (true, "651785ab30dc93d26db16c54c49f060a336a0c4e3b4037c458db547499a93fbe"), looks := false }, kinds := [], alts := [], laidByText := true, laidKinds := [.data, .pinned], laidTests := true, laidLooks := .later }
def DirKeepsUptoCardSaid : Prop := Claim7.holds Tryz.pinned (.plain (OpenSpec.upto dirKeepsSpec)) dirKeepsUptoCard

/-- THE SECOND FORM's CARD OF 'skerrylaw15.DirGives'. -/
def dirGivesUptoCard : Claim7 := { stood := { row := dirGivesUptoRow, standIns := [], harness := (true, "651785ab30dc93d26db16c54c49f060a336a0c4e3b4037c458db547499a93fbe"), looks := false }, kinds := [], alts := [], laidByText := true, laidKinds := [.data, .pinned], laidTests := true, laidLooks := .later }
def DirGivesUptoCardSaid : Prop := Claim7.holds Tryz.pinned (.plain (OpenSpec.upto dirGivesSpec)) dirGivesUptoCard
end Rows
end Go.Proofs.YtlnhefoegllpmaaGreatDoor
