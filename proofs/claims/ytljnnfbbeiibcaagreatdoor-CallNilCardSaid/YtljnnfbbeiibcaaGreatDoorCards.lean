/-
  DERIVED. GIVEN WITH THE SEED: THE CARDS: each row of YtljnnfbbeiibcaaGreatDoorRows.lean that lists a variable, with what it lists TIED to the program's text (the seventh form; the later family's looks); each row that meets fmt, with fmt's text TOLD by the authors' own Lean function (tested against real Go, not proved from fmt's source: count such statements apart). THE CARD IS WHAT COUNTS. Prove the row's statement (the work); the ties are given (YtljnnfbbeiibcaaGreatDoorTie.lean); close each card by the builder's one call (the guide's Derived/Test/ToyasCard.lean, 'card_holds'). Laid BY PROGRAM, IN A SANDBOX (cutbox-door.mjs). By AI agents, Wed Nov 11 2026. No macro, syntax, notation, axiom, sorry.
-/
import Derived.Test.YtljnnfbbeiibcaaGreatDoorRows
import GoSem.ClaimSeven
namespace Go.Proofs.YtljnnfbbeiibcaaGreatDoor
namespace Rows

/-- THE TIED CARD OF 'godownlaw17.CallNil'. -/
def callNilCard : Claim7 := { stood := { row := callNilRow, standIns := [], harness := (true, "0c6cffa20047aa9260a2ca1782be2bad634b6183943c15d95e0caee726d2624b"), looks := true }, kinds := [], alts := [], laidByText := true, laidKinds := [.data, .data, .data, .pinned], laidTests := true, laidLooks := .later }
def CallNilCardSaid : Prop := Claim7.holds Tryz.pinned (.plain (OpenSpec.ofChange callNilSpec)) callNilCard

/-- THE SECOND FORM's CARD OF 'godownlaw17.CallNil'. -/
def callNilUptoCard : Claim7 := { stood := { row := callNilUptoRow, standIns := [], harness := (true, "0c6cffa20047aa9260a2ca1782be2bad634b6183943c15d95e0caee726d2624b"), looks := true }, kinds := [], alts := [], laidByText := true, laidKinds := [.data, .data, .data, .pinned], laidTests := true, laidLooks := .later }
def CallNilUptoCardSaid : Prop := Claim7.holds Tryz.pinned (.plain (OpenSpec.upto callNilSpec)) callNilUptoCard
end Rows
end Go.Proofs.YtljnnfbbeiibcaaGreatDoor
