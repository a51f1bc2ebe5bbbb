/-
  DERIVED. GIVEN WITH THE SEED: THE CARDS: each row of YtokbdleokihdaaaDoorRows.lean that lists a variable, with what it lists TIED to the program's text (the seventh form; the later family's looks); each row that meets fmt, with fmt's text TOLD by the authors' own Lean function (tested against real Go, not proved from fmt's source: count such statements apart). THE CARD IS WHAT COUNTS. Prove the row's statement (the work); the ties are given (YtokbdleokihdaaaDoorTie.lean); close each card by the builder's one call (the guide's Derived/Test/ToyasCard.lean, 'card_holds'). Laid BY PROGRAM, IN A SANDBOX (cutbox-door.mjs). By AI agents, Wed Nov 11 2026. No macro, syntax, notation, axiom, sorry.
-/
import Derived.Test.YtokbdleokihdaaaDoorRows
import GoSem.ClaimSeven
namespace Go.Proofs.YtokbdleokihdaaaDoor
namespace Rows

/-- THE TIED CARD OF 'freshetlaw07.EvalValues'. -/
def evalValuesCard : Claim7 := { stood := { row := evalValuesRow, standIns := [], harness := (true, "32eaf1bdf57878619da3bfb6416a070a9ab745d9188d5b19e5873dc477d9d334"), looks := true }, kinds := [], alts := [], laidByText := true, laidKinds := [.data, .pinned], laidTests := true, laidLooks := .later }
def EvalValuesCardSaid : Prop := Claim7.holds Tryd.pinned (.plain (OpenSpec.ofChange evalValuesSpec)) evalValuesCard

/-- THE TIED CARD OF 'freshetlaw07.EvalLazy'. -/
def evalLazyCard : Claim7 := { stood := { row := evalLazyRow, standIns := [], harness := (true, "32eaf1bdf57878619da3bfb6416a070a9ab745d9188d5b19e5873dc477d9d334"), looks := true }, kinds := [], alts := [], laidByText := true, laidKinds := [.data, .pinned], laidTests := true, laidLooks := .later }
def EvalLazyCardSaid : Prop := Claim7.holds Tryd.pinned (.plain (OpenSpec.ofChange evalLazySpec)) evalLazyCard

/-- THE TIED CARD OF 'freshetlaw07.EvalScopes'. -/
def evalScopesCard : Claim7 := { stood := { row := evalScopesRow, standIns := [], harness := (true, "32eaf1bdf57878619da3bfb6416a070a9ab745d9188d5b19e5873dc477d9d334"), looks := true }, kinds := [], alts := [], laidByText := true, laidKinds := [.data, .data, .data, .data, .pinned], laidTests := true, laidLooks := .later }
def EvalScopesCardSaid : Prop := Claim7.holds Tryd.pinned (.plain (OpenSpec.ofChange evalScopesSpec)) evalScopesCard

/-- THE SECOND FORM's CARD OF 'freshetlaw07.EvalValues'. -/
def evalValuesUptoCard : Claim7 := { stood := { row := evalValuesUptoRow, standIns := [], harness := (true, "32eaf1bdf57878619da3bfb6416a070a9ab745d9188d5b19e5873dc477d9d334"), looks := true }, kinds := [], alts := [], laidByText := true, laidKinds := [.data, .pinned], laidTests := true, laidLooks := .later }
def EvalValuesUptoCardSaid : Prop := Claim7.holds Tryd.pinned (.plain (OpenSpec.upto evalValuesSpec)) evalValuesUptoCard

/-- THE SECOND FORM's CARD OF 'freshetlaw07.EvalLazy'. -/
def evalLazyUptoCard : Claim7 := { stood := { row := evalLazyUptoRow, standIns := [], harness := (true, "32eaf1bdf57878619da3bfb6416a070a9ab745d9188d5b19e5873dc477d9d334"), looks := true }, kinds := [], alts := [], laidByText := true, laidKinds := [.data, .pinned], laidTests := true, laidLooks := .later }
def EvalLazyUptoCardSaid : Prop := Claim7.holds Tryd.pinned (.plain (OpenSpec.upto evalLazySpec)) evalLazyUptoCard

/-- THE SECOND FORM's CARD OF 'freshetlaw07.EvalScopes'. -/
def evalScopesUptoCard : Claim7 := { stood := { row := evalScopesUptoRow, standIns := [], harness := (true, "32eaf1bdf57878619da3bfb6416a070a9ab745d9188d5b19e5873dc477d9d334"), looks := true }, kinds := [], alts := [], laidByText := true, laidKinds := [.data, .data, .data, .data, .pinned], laidTests := true, laidLooks := .later }
def EvalScopesUptoCardSaid : Prop := Claim7.holds Tryd.pinned (.plain (OpenSpec.upto evalScopesSpec)) evalScopesUptoCard
end Rows
end Go.Proofs.YtokbdleokihdaaaDoor
