/-
  DERIVED. GIVEN WITH THE SEED: THE CARDS: each row of YtidejjjedpdbeaaDoorRows.lean that lists a variable, with what it lists TIED to the program's text (the seventh form; the later family's looks); each row that meets fmt, with fmt's text TOLD by the authors' own Lean function (tested against real Go, not proved from fmt's source: count such statements apart). THE CARD IS WHAT COUNTS. Prove the row's statement (the work); the ties are given (YtidejjjedpdbeaaDoorTie.lean); close each card by the builder's one call (the guide's Derived/Test/ToyasCard.lean, 'card_holds'). Laid BY PROGRAM, IN A SANDBOX (cutbox-door.mjs). By AI agents, Wed Nov 11 2026. No macro, syntax, notation, axiom, sorry.
-/
import Derived.Test.YtidejjjedpdbeaaDoorRows
import GoSem.ClaimSeven
namespace Go.Proofs.YtidejjjedpdbeaaDoor
namespace Rows

/-- THE TIED CARD OF 'freshetlaw01.DatumApplies'. -/
def datumAppliesCard : Claim7 := { stood := { row := datumAppliesRow, standIns := [], harness := (true, "e549812f10565dc70c44f3c8b4456ccd43d169919cdc92a4e27b439463585911"), looks := false }, kinds := [], alts := [], laidByText := true, laidKinds := [.data, .pinned], laidTests := true, laidLooks := .later }
def DatumAppliesCardSaid : Prop := Claim7.holds Tryd.pinned (.plain (OpenSpec.ofChange datumAppliesSpec)) datumAppliesCard

/-- THE TIED CARD OF 'freshetlaw01.DatumCompares'. -/
def datumComparesCard : Claim7 := { stood := { row := datumComparesRow, standIns := [], harness := (true, "e549812f10565dc70c44f3c8b4456ccd43d169919cdc92a4e27b439463585911"), looks := false }, kinds := [], alts := [], laidByText := true, laidKinds := [.data, .pinned], laidTests := true, laidLooks := .later }
def DatumComparesCardSaid : Prop := Claim7.holds Tryd.pinned (.plain (OpenSpec.ofChange datumComparesSpec)) datumComparesCard

/-- THE TIED CARD OF 'freshetlaw01.DatumLogic'. -/
def datumLogicCard : Claim7 := { stood := { row := datumLogicRow, standIns := [], harness := (true, "e549812f10565dc70c44f3c8b4456ccd43d169919cdc92a4e27b439463585911"), looks := false }, kinds := [], alts := [], laidByText := true, laidKinds := [.data, .pinned], laidTests := true, laidLooks := .later }
def DatumLogicCardSaid : Prop := Claim7.holds Tryd.pinned (.plain (OpenSpec.ofChange datumLogicSpec)) datumLogicCard

/-- THE TIED CARD OF 'freshetlaw01.DatumSums'. -/
def datumSumsCard : Claim7 := { stood := { row := datumSumsRow, standIns := [], harness := (true, "e549812f10565dc70c44f3c8b4456ccd43d169919cdc92a4e27b439463585911"), looks := false }, kinds := [], alts := [], laidByText := true, laidKinds := [.data, .pinned], laidTests := true, laidLooks := .later }
def DatumSumsCardSaid : Prop := Claim7.holds Tryd.pinned (.plain (OpenSpec.ofChange datumSumsSpec)) datumSumsCard

/-- THE TIED CARD OF 'freshetlaw01.DatumDecimals'. -/
def datumDecimalsCard : Claim7 := { stood := { row := datumDecimalsRow, standIns := [], harness := (true, "e549812f10565dc70c44f3c8b4456ccd43d169919cdc92a4e27b439463585911"), looks := false }, kinds := [], alts := [], laidByText := true, laidKinds := [.data, .pinned], laidTests := true, laidLooks := .later }
def DatumDecimalsCardSaid : Prop := Claim7.holds Tryd.pinned (.plain (OpenSpec.ofChange datumDecimalsSpec)) datumDecimalsCard

/-- THE TIED CARD OF 'freshetlaw01.DatumRights'. -/
def datumRightsCard : Claim7 := { stood := { row := datumRightsRow, standIns := [], harness := (true, "e549812f10565dc70c44f3c8b4456ccd43d169919cdc92a4e27b439463585911"), looks := false }, kinds := [], alts := [], laidByText := true, laidKinds := [.data, .data, .data, .data, .pinned], laidTests := true, laidLooks := .later }
def DatumRightsCardSaid : Prop := Claim7.holds Tryd.pinned (.plain (OpenSpec.ofChange datumRightsSpec)) datumRightsCard

/-- THE SECOND FORM's CARD OF 'freshetlaw01.DatumApplies'. -/
def datumAppliesUptoCard : Claim7 := { stood := { row := datumAppliesUptoRow, standIns := [], harness := (true, "e549812f10565dc70c44f3c8b4456ccd43d169919cdc92a4e27b439463585911"), looks := false }, kinds := [], alts := [], laidByText := true, laidKinds := [.data, .pinned], laidTests := true, laidLooks := .later }
def DatumAppliesUptoCardSaid : Prop := Claim7.holds Tryd.pinned (.plain (OpenSpec.upto datumAppliesSpec)) datumAppliesUptoCard

/-- THE SECOND FORM's CARD OF 'freshetlaw01.DatumCompares'. -/
def datumComparesUptoCard : Claim7 := { stood := { row := datumComparesUptoRow, standIns := [], harness := (true, "e549812f10565dc70c44f3c8b4456ccd43d169919cdc92a4e27b439463585911"), looks := false }, kinds := [], alts := [], laidByText := true, laidKinds := [.data, .pinned], laidTests := true, laidLooks := .later }
def DatumComparesUptoCardSaid : Prop := Claim7.holds Tryd.pinned (.plain (OpenSpec.upto datumComparesSpec)) datumComparesUptoCard

/-- THE SECOND FORM's CARD OF 'freshetlaw01.DatumLogic'. -/
def datumLogicUptoCard : Claim7 := { stood := { row := datumLogicUptoRow, standIns := [], harness := (true, "e549812f10565dc70c44f3c8b4456ccd43d169919cdc92a4e27b439463585911"), looks := false }, kinds := [], alts := [], laidByText := true, laidKinds := [.data, .pinned], laidTests := true, laidLooks := .later }
def DatumLogicUptoCardSaid : Prop := Claim7.holds Tryd.pinned (.plain (OpenSpec.upto datumLogicSpec)) datumLogicUptoCard

/-- THE SECOND FORM's CARD OF 'freshetlaw01.DatumSums'. -/
def datumSumsUptoCard : Claim7 := { stood := { row := datumSumsUptoRow, standIns := [], harness := (true, "e549812f10565dc70c44f3c8b4456ccd43d169919cdc92a4e27b439463585911"), looks := false }, kinds := [], alts := [], laidByText := true, laidKinds := [.data, .pinned], laidTests := true, laidLooks := .later }
def DatumSumsUptoCardSaid : Prop := Claim7.holds Tryd.pinned (.plain (OpenSpec.upto datumSumsSpec)) datumSumsUptoCard

/-- THE SECOND FORM's CARD OF 'freshetlaw01.DatumDecimals'. -/
def datumDecimalsUptoCard : Claim7 := { stood := { row := datumDecimalsUptoRow, standIns := [], harness := (true, "e549812f10565dc70c44f3c8b4456ccd43d169919cdc92a4e27b439463585911"), looks := false }, kinds := [], alts := [], laidByText := true, laidKinds := [.data, .pinned], laidTests := true, laidLooks := .later }
def DatumDecimalsUptoCardSaid : Prop := Claim7.holds Tryd.pinned (.plain (OpenSpec.upto datumDecimalsSpec)) datumDecimalsUptoCard

/-- THE SECOND FORM's CARD OF 'freshetlaw01.DatumRights'. -/
def datumRightsUptoCard : Claim7 := { stood := { row := datumRightsUptoRow, standIns := [], harness := (true, "e549812f10565dc70c44f3c8b4456ccd43d169919cdc92a4e27b439463585911"), looks := false }, kinds := [], alts := [], laidByText := true, laidKinds := [.data, .data, .data, .data, .pinned], laidTests := true, laidLooks := .later }
def DatumRightsUptoCardSaid : Prop := Claim7.holds Tryd.pinned (.plain (OpenSpec.upto datumRightsSpec)) datumRightsUptoCard
end Rows
end Go.Proofs.YtidejjjedpdbeaaDoor
