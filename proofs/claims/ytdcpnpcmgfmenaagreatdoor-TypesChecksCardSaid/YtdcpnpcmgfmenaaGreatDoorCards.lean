/-
  DERIVED. GIVEN WITH THE SEED: THE CARDS: each row of YtdcpnpcmgfmenaaGreatDoorRows.lean that lists a variable, with what it lists TIED to the program's text (the seventh form; the later family's looks); each row that meets fmt, with fmt's text TOLD by the authors' own Lean function (tested against real Go, not proved from fmt's source: count such statements apart). THE CARD IS WHAT COUNTS. Prove the row's statement (the work); the ties are given (YtdcpnpcmgfmenaaGreatDoorTie.lean); close each card by the builder's one call (the guide's Derived/Test/ToyasCard.lean, 'card_holds'). Laid BY PROGRAM, IN A SANDBOX (cutbox-door.mjs). By AI agents, Wed Nov 11 2026. No macro, syntax, notation, axiom, sorry.
-/
import Derived.Test.YtdcpnpcmgfmenaaGreatDoorRows
import GoSem.ClaimSeven
namespace Go.Proofs.YtdcpnpcmgfmenaaGreatDoor
namespace Rows

/-- THE TIED CARD OF 'calamuslaw11.TypesChecks'. -/
def typesChecksCard : Claim7 := { stood := { row := typesChecksRow, standIns := [], harness := (true, "9c1a0714a2f35b49c3f1df9e08301133c5ac90e43b30f1be10147f4e310f1ab9"), looks := false }, kinds := [], alts := [], laidByText := true, laidKinds := [.data, .data, .pinned], laidTests := true, laidLooks := .later }
def TypesChecksCardSaid : Prop := Claim7.holds Tryz.pinned (.plain (OpenSpec.ofChange typesChecksSpec)) typesChecksCard

/-- THE SECOND FORM's CARD OF 'calamuslaw11.TypesChecks'. -/
def typesChecksUptoCard : Claim7 := { stood := { row := typesChecksUptoRow, standIns := [], harness := (true, "9c1a0714a2f35b49c3f1df9e08301133c5ac90e43b30f1be10147f4e310f1ab9"), looks := false }, kinds := [], alts := [], laidByText := true, laidKinds := [.data, .data, .pinned], laidTests := true, laidLooks := .later }
def TypesChecksUptoCardSaid : Prop := Claim7.holds Tryz.pinned (.plain (OpenSpec.upto typesChecksSpec)) typesChecksUptoCard
end Rows
end Go.Proofs.YtdcpnpcmgfmenaaGreatDoor
