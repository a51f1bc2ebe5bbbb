/-
  DERIVED. GIVEN WITH THE SEED: THE CARDS: each row of YtokbdleokihdaaaGreatDoorRows.lean that lists a variable, with what it lists TIED to the program's text (the seventh form; the later family's looks); each row that meets fmt, with fmt's text TOLD by the authors' own Lean function (tested against real Go, not proved from fmt's source: count such statements apart). THE CARD IS WHAT COUNTS. Prove the row's statement (the work); the ties are given (YtokbdleokihdaaaGreatDoorTie.lean); close each card by the builder's one call (the guide's Derived/Test/ToyasCard.lean, 'card_holds'). Laid BY PROGRAM, IN A SANDBOX (cutbox-door.mjs). By AI agents, Wed Nov 11 2026. No macro, syntax, notation, axiom, sorry.
-/
import Derived.Test.YtokbdleokihdaaaGreatDoorRows
import GoSem.ClaimSeven
namespace Go.Proofs.YtokbdleokihdaaaGreatDoor
namespace Rows

/-- THE TIED CARD OF 'freshetlaw07.EvalParts'. -/
def evalPartsCard : Claim7 := { stood := { row := evalPartsRow, standIns := [], harness := (true, "5fbe121d96aa13210cfe5920cf7797c35c8ee49d8b338e8090d4338e91c27495"), looks := true }, kinds := [], alts := [], laidByText := true, laidKinds := [.data, .data, .data, .data, .pinned], laidTests := true, laidLooks := .later }
def EvalPartsCardSaid : Prop := Claim7.holds Tryz.pinned (.plain (OpenSpec.ofChange evalPartsSpec)) evalPartsCard

/-- THE SECOND FORM's CARD OF 'freshetlaw07.EvalParts'. -/
def evalPartsUptoCard : Claim7 := { stood := { row := evalPartsUptoRow, standIns := [], harness := (true, "5fbe121d96aa13210cfe5920cf7797c35c8ee49d8b338e8090d4338e91c27495"), looks := true }, kinds := [], alts := [], laidByText := true, laidKinds := [.data, .data, .data, .data, .pinned], laidTests := true, laidLooks := .later }
def EvalPartsUptoCardSaid : Prop := Claim7.holds Tryz.pinned (.plain (OpenSpec.upto evalPartsSpec)) evalPartsUptoCard
end Rows
end Go.Proofs.YtokbdleokihdaaaGreatDoor
