/-
  DERIVED. GIVEN WITH THE SEED: THE CARDS: each row of YtplnfkihbffeeaaGreatDoorRows.lean that lists a variable, with what it lists TIED to the program's text (the seventh form; the later family's looks); each row that meets fmt, with fmt's text TOLD by the authors' own Lean function (tested against real Go, not proved from fmt's source: count such statements apart). THE CARD IS WHAT COUNTS. Prove the row's statement (the work); the ties are given (YtplnfkihbffeeaaGreatDoorTie.lean); close each card by the builder's one call (the guide's Derived/Test/ToyasCard.lean, 'card_holds'). Laid BY PROGRAM, IN A SANDBOX (cutbox-door.mjs). By AI agents, Wed Nov 11 2026. No macro, syntax, notation, axiom, sorry.
-/
import Derived.Test.YtplnfkihbffeeaaGreatDoorRows
import GoSem.ClaimSeven
namespace Go.Proofs.YtplnfkihbffeeaaGreatDoor
namespace Rows

/-- THE TIED CARD OF 'quietuslaw31.ScriptRuns'. -/
def scriptRunsCard : Claim7 := { stood := { row := scriptRunsRow, standIns := [], harness := (true, "921d4467756ae8fc2227221c5142001d4b440f785c11756977f8491d268f6c97"), looks := true }, kinds := [], alts := [], laidByText := true, laidKinds := [.data, .data, .data, .data, .pinned], laidTests := true, laidLooks := .later }
def ScriptRunsCardSaid : Prop := Claim7.holds Tryz.pinned (.plain (OpenSpec.ofChange scriptRunsSpec)) scriptRunsCard

/-- THE TIED CARD OF 'quietuslaw31.ScriptEnds'. -/
def scriptEndsCard : Claim7 := { stood := { row := scriptEndsRow, standIns := [], harness := (true, "921d4467756ae8fc2227221c5142001d4b440f785c11756977f8491d268f6c97"), looks := true }, kinds := [], alts := [], laidByText := true, laidKinds := [.data, .data, .data, .data, .pinned], laidTests := true, laidLooks := .later }
def ScriptEndsCardSaid : Prop := Claim7.holds Tryz.pinned (.plain (OpenSpec.ofChange scriptEndsSpec)) scriptEndsCard

/-- THE SECOND FORM's CARD OF 'quietuslaw31.ScriptRuns'. -/
def scriptRunsUptoCard : Claim7 := { stood := { row := scriptRunsUptoRow, standIns := [], harness := (true, "921d4467756ae8fc2227221c5142001d4b440f785c11756977f8491d268f6c97"), looks := true }, kinds := [], alts := [], laidByText := true, laidKinds := [.data, .data, .data, .data, .pinned], laidTests := true, laidLooks := .later }
def ScriptRunsUptoCardSaid : Prop := Claim7.holds Tryz.pinned (.plain (OpenSpec.upto scriptRunsSpec)) scriptRunsUptoCard

/-- THE SECOND FORM's CARD OF 'quietuslaw31.ScriptEnds'. -/
def scriptEndsUptoCard : Claim7 := { stood := { row := scriptEndsUptoRow, standIns := [], harness := (true, "921d4467756ae8fc2227221c5142001d4b440f785c11756977f8491d268f6c97"), looks := true }, kinds := [], alts := [], laidByText := true, laidKinds := [.data, .data, .data, .data, .pinned], laidTests := true, laidLooks := .later }
def ScriptEndsUptoCardSaid : Prop := Claim7.holds Tryz.pinned (.plain (OpenSpec.upto scriptEndsSpec)) scriptEndsUptoCard
end Rows
end Go.Proofs.YtplnfkihbffeeaaGreatDoor
