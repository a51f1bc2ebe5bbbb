/-
  DERIVED. GIVEN WITH THE SEED: THE CARDS: each row of YtnpgjlhnlakgpaaDoorRows.lean that lists a variable, with what it lists TIED to the program's text (the seventh form; the later family's looks); each row that meets fmt, with fmt's text TOLD by the authors' own Lean function (tested against real Go, not proved from fmt's source: count such statements apart). THE CARD IS WHAT COUNTS. Prove the row's statement (the work); the ties are given (YtnpgjlhnlakgpaaDoorTie.lean); close each card by the builder's one call (the guide's Derived/Test/ToyasCard.lean, 'card_holds'). Laid BY PROGRAM, IN A SANDBOX (cutbox-door.mjs). By AI agents, Wed Nov 11 2026. No macro, syntax, notation, axiom, sorry.
-/
import Derived.Test.YtnpgjlhnlakgpaaDoorRows
import GoSem.ClaimSeven
namespace Go.Proofs.YtnpgjlhnlakgpaaDoor
namespace Rows

/-- THE TIED CARD OF 'freshetlaw04.LexPlaces'. -/
def lexPlacesCard : Claim7 := { stood := { row := lexPlacesRow, standIns := [], harness := (true, "3fc0083c2a67d920bec4ce6078f7d9c578210d54491c9f7b52d8114d38295598"), looks := false }, kinds := [], alts := [], laidByText := true, laidKinds := [.data, .listed, .data, .pinned, .pinned], laidTests := true, laidLooks := .later }
def LexPlacesCardSaid : Prop := Claim7.holds Tryd.pinned (.plain (OpenSpec.ofChange lexPlacesSpec)) lexPlacesCard

/-- THE TIED CARD OF 'freshetlaw04.LexTakes'. -/
def lexTakesCard : Claim7 := { stood := { row := lexTakesRow, standIns := [], harness := (true, "3fc0083c2a67d920bec4ce6078f7d9c578210d54491c9f7b52d8114d38295598"), looks := false }, kinds := [], alts := [], laidByText := true, laidKinds := [.data, .listed, .data, .pinned, .pinned], laidTests := true, laidLooks := .later }
def LexTakesCardSaid : Prop := Claim7.holds Tryd.pinned (.plain (OpenSpec.ofChange lexTakesSpec)) lexTakesCard

/-- THE TIED CARD OF 'freshetlaw04.LexAgain'. -/
def lexAgainCard : Claim7 := { stood := { row := lexAgainRow, standIns := [], harness := (true, "3fc0083c2a67d920bec4ce6078f7d9c578210d54491c9f7b52d8114d38295598"), looks := false }, kinds := [], alts := [], laidByText := true, laidKinds := [.data, .data, .data, .data, .listed, .data, .pinned, .pinned], laidTests := true, laidLooks := .later }
def LexAgainCardSaid : Prop := Claim7.holds Tryd.pinned (.plain (OpenSpec.ofChange lexAgainSpec)) lexAgainCard

/-- THE TIED CARD OF 'freshetlaw04.LexBlanks'. -/
def lexBlanksCard : Claim7 := { stood := { row := lexBlanksRow, standIns := [], harness := (true, "3fc0083c2a67d920bec4ce6078f7d9c578210d54491c9f7b52d8114d38295598"), looks := false }, kinds := [], alts := [], laidByText := true, laidKinds := [.data, .data, .data, .data, .listed, .data, .pinned, .pinned], laidTests := true, laidLooks := .later }
def LexBlanksCardSaid : Prop := Claim7.holds Tryd.pinned (.plain (OpenSpec.ofChange lexBlanksSpec)) lexBlanksCard

/-- THE TIED CARD OF 'freshetlaw04.LexValues'. -/
def lexValuesCard : Claim7 := { stood := { row := lexValuesRow, standIns := [], harness := (true, "3fc0083c2a67d920bec4ce6078f7d9c578210d54491c9f7b52d8114d38295598"), looks := false }, kinds := [], alts := [], laidByText := true, laidKinds := [.data, .data, .data, .data, .listed, .data, .pinned, .pinned], laidTests := true, laidLooks := .later }
def LexValuesCardSaid : Prop := Claim7.holds Tryd.pinned (.plain (OpenSpec.ofChange lexValuesSpec)) lexValuesCard

/-- THE TIED CARD OF 'freshetlaw15.WalSums'. -/
def walSumsCard : Claim7 := { stood := { row := walSumsRow, standIns := [], harness := (true, "3fc0083c2a67d920bec4ce6078f7d9c578210d54491c9f7b52d8114d38295598"), looks := false }, kinds := [], alts := [], laidByText := true, laidKinds := [.data, .data, .data], laidTests := true, laidLooks := .later }
def WalSumsCardSaid : Prop := Claim7.holds Tryd.pinned (.plain (OpenSpec.ofChange walSumsSpec)) walSumsCard

/-- THE TIED CARD OF 'freshetlaw15.WalTorn'. -/
def walTornCard : Claim7 := { stood := { row := walTornRow, standIns := [], harness := (true, "3fc0083c2a67d920bec4ce6078f7d9c578210d54491c9f7b52d8114d38295598"), looks := false }, kinds := [], alts := [], laidByText := true, laidKinds := [.data, .data, .data], laidTests := true, laidLooks := .later }
def WalTornCardSaid : Prop := Claim7.holds Tryd.pinned (.plain (OpenSpec.ofChange walTornSpec)) walTornCard

/-- THE TIED CARD OF 'freshetlaw15.WalRows'. -/
def walRowsCard : Claim7 := { stood := { row := walRowsRow, standIns := [], harness := (true, "3fc0083c2a67d920bec4ce6078f7d9c578210d54491c9f7b52d8114d38295598"), looks := false }, kinds := [], alts := [], laidByText := true, laidKinds := [.data, .data, .data], laidTests := true, laidLooks := .later }
def WalRowsCardSaid : Prop := Claim7.holds Tryd.pinned (.plain (OpenSpec.ofChange walRowsSpec)) walRowsCard

/-- THE TIED CARD OF 'freshetlaw15.WalFiles'. -/
def walFilesCard : Claim7 := { stood := { row := walFilesRow, standIns := [], harness := (true, "3fc0083c2a67d920bec4ce6078f7d9c578210d54491c9f7b52d8114d38295598"), looks := false }, kinds := [], alts := [], laidByText := true, laidKinds := [.data, .data, .data], laidTests := true, laidLooks := .later }
def WalFilesCardSaid : Prop := Claim7.holds Tryd.pinned (.plain (OpenSpec.ofChange walFilesSpec)) walFilesCard

/-- THE TIED CARD OF 'freshetlaw15.WalTrims'. -/
def walTrimsCard : Claim7 := { stood := { row := walTrimsRow, standIns := [], harness := (true, "3fc0083c2a67d920bec4ce6078f7d9c578210d54491c9f7b52d8114d38295598"), looks := false }, kinds := [], alts := [], laidByText := true, laidKinds := [.data, .data, .data], laidTests := true, laidLooks := .later }
def WalTrimsCardSaid : Prop := Claim7.holds Tryd.pinned (.plain (OpenSpec.ofChange walTrimsSpec)) walTrimsCard

/-- THE TIED CARD OF 'freshetlaw15.WalKeeps'. -/
def walKeepsCard : Claim7 := { stood := { row := walKeepsRow, standIns := [], harness := (true, "3fc0083c2a67d920bec4ce6078f7d9c578210d54491c9f7b52d8114d38295598"), looks := false }, kinds := [], alts := [], laidByText := true, laidKinds := [.data, .data, .data], laidTests := true, laidLooks := .later }
def WalKeepsCardSaid : Prop := Claim7.holds Tryd.pinned (.plain (OpenSpec.ofChange walKeepsSpec)) walKeepsCard

/-- THE SECOND FORM's CARD OF 'freshetlaw04.LexPlaces'. -/
def lexPlacesUptoCard : Claim7 := { stood := { row := lexPlacesUptoRow, standIns := [], harness := (true, "3fc0083c2a67d920bec4ce6078f7d9c578210d54491c9f7b52d8114d38295598"), looks := false }, kinds := [], alts := [], laidByText := true, laidKinds := [.data, .listed, .data, .pinned, .pinned], laidTests := true, laidLooks := .later }
def LexPlacesUptoCardSaid : Prop := Claim7.holds Tryd.pinned (.plain (OpenSpec.upto lexPlacesSpec)) lexPlacesUptoCard

/-- THE SECOND FORM's CARD OF 'freshetlaw04.LexTakes'. -/
def lexTakesUptoCard : Claim7 := { stood := { row := lexTakesUptoRow, standIns := [], harness := (true, "3fc0083c2a67d920bec4ce6078f7d9c578210d54491c9f7b52d8114d38295598"), looks := false }, kinds := [], alts := [], laidByText := true, laidKinds := [.data, .listed, .data, .pinned, .pinned], laidTests := true, laidLooks := .later }
def LexTakesUptoCardSaid : Prop := Claim7.holds Tryd.pinned (.plain (OpenSpec.upto lexTakesSpec)) lexTakesUptoCard

/-- THE SECOND FORM's CARD OF 'freshetlaw04.LexAgain'. -/
def lexAgainUptoCard : Claim7 := { stood := { row := lexAgainUptoRow, standIns := [], harness := (true, "3fc0083c2a67d920bec4ce6078f7d9c578210d54491c9f7b52d8114d38295598"), looks := false }, kinds := [], alts := [], laidByText := true, laidKinds := [.data, .data, .data, .data, .listed, .data, .pinned, .pinned], laidTests := true, laidLooks := .later }
def LexAgainUptoCardSaid : Prop := Claim7.holds Tryd.pinned (.plain (OpenSpec.upto lexAgainSpec)) lexAgainUptoCard

/-- THE SECOND FORM's CARD OF 'freshetlaw04.LexBlanks'. -/
def lexBlanksUptoCard : Claim7 := { stood := { row := lexBlanksUptoRow, standIns := [], harness := (true, "3fc0083c2a67d920bec4ce6078f7d9c578210d54491c9f7b52d8114d38295598"), looks := false }, kinds := [], alts := [], laidByText := true, laidKinds := [.data, .data, .data, .data, .listed, .data, .pinned, .pinned], laidTests := true, laidLooks := .later }
def LexBlanksUptoCardSaid : Prop := Claim7.holds Tryd.pinned (.plain (OpenSpec.upto lexBlanksSpec)) lexBlanksUptoCard

/-- THE SECOND FORM's CARD OF 'freshetlaw04.LexValues'. -/
def lexValuesUptoCard : Claim7 := { stood := { row := lexValuesUptoRow, standIns := [], harness := (true, "3fc0083c2a67d920bec4ce6078f7d9c578210d54491c9f7b52d8114d38295598"), looks := false }, kinds := [], alts := [], laidByText := true, laidKinds := [.data, .data, .data, .data, .listed, .data, .pinned, .pinned], laidTests := true, laidLooks := .later }
def LexValuesUptoCardSaid : Prop := Claim7.holds Tryd.pinned (.plain (OpenSpec.upto lexValuesSpec)) lexValuesUptoCard

/-- THE SECOND FORM's CARD OF 'freshetlaw15.WalSums'. -/
def walSumsUptoCard : Claim7 := { stood := { row := walSumsUptoRow, standIns := [], harness := (true, "3fc0083c2a67d920bec4ce6078f7d9c578210d54491c9f7b52d8114d38295598"), looks := false }, kinds := [], alts := [], laidByText := true, laidKinds := [.data, .data, .data], laidTests := true, laidLooks := .later }
def WalSumsUptoCardSaid : Prop := Claim7.holds Tryd.pinned (.plain (OpenSpec.upto walSumsSpec)) walSumsUptoCard

/-- THE SECOND FORM's CARD OF 'freshetlaw15.WalTorn'. -/
def walTornUptoCard : Claim7 := { stood := { row := walTornUptoRow, standIns := [], harness := (true, "3fc0083c2a67d920bec4ce6078f7d9c578210d54491c9f7b52d8114d38295598"), looks := false }, kinds := [], alts := [], laidByText := true, laidKinds := [.data, .data, .data], laidTests := true, laidLooks := .later }
def WalTornUptoCardSaid : Prop := Claim7.holds Tryd.pinned (.plain (OpenSpec.upto walTornSpec)) walTornUptoCard

/-- THE SECOND FORM's CARD OF 'freshetlaw15.WalRows'. -/
def walRowsUptoCard : Claim7 := { stood := { row := walRowsUptoRow, standIns := [], harness := (true, "3fc0083c2a67d920bec4ce6078f7d9c578210d54491c9f7b52d8114d38295598"), looks := false }, kinds := [], alts := [], laidByText := true, laidKinds := [.data, .data, .data], laidTests := true, laidLooks := .later }
def WalRowsUptoCardSaid : Prop := Claim7.holds Tryd.pinned (.plain (OpenSpec.upto walRowsSpec)) walRowsUptoCard

/-- THE SECOND FORM's CARD OF 'freshetlaw15.WalFiles'. -/
def walFilesUptoCard : Claim7 := { stood := { row := walFilesUptoRow, standIns := [], harness := (true, "3fc0083c2a67d920bec4ce6078f7d9c578210d54491c9f7b52d8114d38295598"), looks := false }, kinds := [], alts := [], laidByText := true, laidKinds := [.data, .data, .data], laidTests := true, laidLooks := .later }
def WalFilesUptoCardSaid : Prop := Claim7.holds Tryd.pinned (.plain (OpenSpec.upto walFilesSpec)) walFilesUptoCard

/-- THE SECOND FORM's CARD OF 'freshetlaw15.WalTrims'. -/
def walTrimsUptoCard : Claim7 := { stood := { row := walTrimsUptoRow, standIns := [], harness := (true, "3fc0083c2a67d920bec4ce6078f7d9c578210d54491c9f7b52d8114d38295598"), looks := false }, kinds := [], alts := [], laidByText := true, laidKinds := [.data, .data, .data], laidTests := true, laidLooks := .later }
def WalTrimsUptoCardSaid : Prop := Claim7.holds Tryd.pinned (.plain (OpenSpec.upto walTrimsSpec)) walTrimsUptoCard

/-- THE SECOND FORM's CARD OF 'freshetlaw15.WalKeeps'. -/
def walKeepsUptoCard : Claim7 := { stood := { row := walKeepsUptoRow, standIns := [], harness := (true, "3fc0083c2a67d920bec4ce6078f7d9c578210d54491c9f7b52d8114d38295598"), looks := false }, kinds := [], alts := [], laidByText := true, laidKinds := [.data, .data, .data], laidTests := true, laidLooks := .later }
def WalKeepsUptoCardSaid : Prop := Claim7.holds Tryd.pinned (.plain (OpenSpec.upto walKeepsSpec)) walKeepsUptoCard
end Rows
end Go.Proofs.YtnpgjlhnlakgpaaDoor
