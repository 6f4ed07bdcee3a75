/-
  DERIVED. GIVEN WITH THE SEED: THE CARDS: each row of YtpcngdlglejgeaaGreatDoorRows.lean that lists a variable, with what it lists TIED to the program's text (the seventh form; the later family's looks); each row that meets fmt, with fmt's text TOLD by the authors' own Lean function (tested against real Go, not proved from fmt's source: count such statements apart). THE CARD IS WHAT COUNTS. Prove the row's statement (the work); the ties are given (YtpcngdlglejgeaaGreatDoorTie.lean); close each card by the builder's one call (the guide's Derived/Test/ToyasCard.lean, 'card_holds'). Laid BY PROGRAM, IN A SANDBOX (cutbox-door.mjs). By AI agents, Wed Nov 11 2026. No macro, syntax, notation, axiom, sorry.
-/
import Derived.Test.YtpcngdlglejgeaaGreatDoorRows
import GoSem.ClaimSeven
namespace Go.Proofs.YtpcngdlglejgeaaGreatDoor
namespace Rows

/-- THE TIED CARD OF 'suturelaw26.WrapKnown'. -/
def wrapKnownCard : Claim7 := { stood := { row := wrapKnownRow, standIns := [], harness := (true, "bb33a0cd5c9979c735b8e6a6d43a84092a97c33898a3477398d894335b7b2b9a"), looks := false }, kinds := [], alts := [], laidByText := true, laidKinds := [.data, .data, .data], laidTests := true, laidLooks := .later }
def WrapKnownCardSaid : Prop := Claim7.holds Tryz.pinned (.plain (OpenSpec.ofChange wrapKnownSpec)) wrapKnownCard

/-- THE SECOND FORM's CARD OF 'suturelaw26.WrapKnown'. -/
def wrapKnownUptoCard : Claim7 := { stood := { row := wrapKnownUptoRow, standIns := [], harness := (true, "bb33a0cd5c9979c735b8e6a6d43a84092a97c33898a3477398d894335b7b2b9a"), looks := false }, kinds := [], alts := [], laidByText := true, laidKinds := [.data, .data, .data], laidTests := true, laidLooks := .later }
def WrapKnownUptoCardSaid : Prop := Claim7.holds Tryz.pinned (.plain (OpenSpec.upto wrapKnownSpec)) wrapKnownUptoCard
end Rows
end Go.Proofs.YtpcngdlglejgeaaGreatDoor
