/-
  DERIVED. GIVEN WITH THE SEED: THE CARDS: each row of YtdcpnpcmgfmenaaDoorRows.lean that lists a variable, with what it lists TIED to the program's text (the seventh form; the later family's looks); each row that meets fmt, with fmt's text TOLD by the authors' own Lean function (tested against real Go, not proved from fmt's source: count such statements apart). THE CARD IS WHAT COUNTS. Prove the row's statement (the work); the ties are given (YtdcpnpcmgfmenaaDoorTie.lean); close each card by the builder's one call (the guide's Derived/Test/ToyasCard.lean, 'card_holds'). Laid BY PROGRAM, IN A SANDBOX (cutbox-door.mjs). By AI agents, Wed Nov 11 2026. No macro, syntax, notation, axiom, sorry.
-/
import Derived.Test.YtdcpnpcmgfmenaaDoorRows
import GoSem.ClaimSeven
namespace Go.Proofs.YtdcpnpcmgfmenaaDoor
namespace Rows

/-- THE TIED CARD OF 'calamuslaw11.TypesOrders'. -/
def typesOrdersCard : Claim7 := { stood := { row := typesOrdersRow, standIns := [], harness := (true, "7f4b7a8388466f686dd65d31f5fad1f2cf8717af09ddb7e15a7cb60bed614356"), looks := false }, kinds := [], alts := [], laidByText := true, laidKinds := [.data, .data, .pinned], laidTests := true, laidLooks := .later }
def TypesOrdersCardSaid : Prop := Claim7.holds Tryd.pinned (.plain (OpenSpec.ofChange typesOrdersSpec)) typesOrdersCard

/-- THE TIED CARD OF 'calamuslaw11.TypesParts'. -/
def typesPartsCard : Claim7 := { stood := { row := typesPartsRow, standIns := [], harness := (true, "7f4b7a8388466f686dd65d31f5fad1f2cf8717af09ddb7e15a7cb60bed614356"), looks := false }, kinds := [], alts := [], laidByText := true, laidKinds := [.data, .data, .pinned], laidTests := true, laidLooks := .later }
def TypesPartsCardSaid : Prop := Claim7.holds Tryd.pinned (.plain (OpenSpec.ofChange typesPartsSpec)) typesPartsCard

/-- THE TIED CARD OF 'calamuslaw11.TypesThree'. -/
def typesThreeCard : Claim7 := { stood := { row := typesThreeRow, standIns := [], harness := (true, "7f4b7a8388466f686dd65d31f5fad1f2cf8717af09ddb7e15a7cb60bed614356"), looks := false }, kinds := [], alts := [], laidByText := true, laidKinds := [.data, .data, .pinned], laidTests := true, laidLooks := .later }
def TypesThreeCardSaid : Prop := Claim7.holds Tryd.pinned (.plain (OpenSpec.ofChange typesThreeSpec)) typesThreeCard

/-- THE TIED CARD OF 'calamuslaw11.TypesAny'. -/
def typesAnyCard : Claim7 := { stood := { row := typesAnyRow, standIns := [], harness := (true, "7f4b7a8388466f686dd65d31f5fad1f2cf8717af09ddb7e15a7cb60bed614356"), looks := false }, kinds := [], alts := [], laidByText := true, laidKinds := [.data, .data, .pinned], laidTests := true, laidLooks := .later }
def TypesAnyCardSaid : Prop := Claim7.holds Tryd.pinned (.plain (OpenSpec.ofChange typesAnySpec)) typesAnyCard

/-- THE SECOND FORM's CARD OF 'calamuslaw11.TypesOrders'. -/
def typesOrdersUptoCard : Claim7 := { stood := { row := typesOrdersUptoRow, standIns := [], harness := (true, "7f4b7a8388466f686dd65d31f5fad1f2cf8717af09ddb7e15a7cb60bed614356"), looks := false }, kinds := [], alts := [], laidByText := true, laidKinds := [.data, .data, .pinned], laidTests := true, laidLooks := .later }
def TypesOrdersUptoCardSaid : Prop := Claim7.holds Tryd.pinned (.plain (OpenSpec.upto typesOrdersSpec)) typesOrdersUptoCard

/-- THE SECOND FORM's CARD OF 'calamuslaw11.TypesParts'. -/
def typesPartsUptoCard : Claim7 := { stood := { row := typesPartsUptoRow, standIns := [], harness := (true, "7f4b7a8388466f686dd65d31f5fad1f2cf8717af09ddb7e15a7cb60bed614356"), looks := false }, kinds := [], alts := [], laidByText := true, laidKinds := [.data, .data, .pinned], laidTests := true, laidLooks := .later }
def TypesPartsUptoCardSaid : Prop := Claim7.holds Tryd.pinned (.plain (OpenSpec.upto typesPartsSpec)) typesPartsUptoCard

/-- THE SECOND FORM's CARD OF 'calamuslaw11.TypesThree'. -/
def typesThreeUptoCard : Claim7 := { stood := { row := typesThreeUptoRow, standIns := [], harness := (true, "7f4b7a8388466f686dd65d31f5fad1f2cf8717af09ddb7e15a7cb60bed614356"), looks := false }, kinds := [], alts := [], laidByText := true, laidKinds := [.data, .data, .pinned], laidTests := true, laidLooks := .later }
def TypesThreeUptoCardSaid : Prop := Claim7.holds Tryd.pinned (.plain (OpenSpec.upto typesThreeSpec)) typesThreeUptoCard

/-- THE SECOND FORM's CARD OF 'calamuslaw11.TypesAny'. -/
def typesAnyUptoCard : Claim7 := { stood := { row := typesAnyUptoRow, standIns := [], harness := (true, "7f4b7a8388466f686dd65d31f5fad1f2cf8717af09ddb7e15a7cb60bed614356"), looks := false }, kinds := [], alts := [], laidByText := true, laidKinds := [.data, .data, .pinned], laidTests := true, laidLooks := .later }
def TypesAnyUptoCardSaid : Prop := Claim7.holds Tryd.pinned (.plain (OpenSpec.upto typesAnySpec)) typesAnyUptoCard
end Rows
end Go.Proofs.YtdcpnpcmgfmenaaDoor
