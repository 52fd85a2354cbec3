/-
  DERIVED. GIVEN WITH THE SEED: THE CARDS: each row of YtmamgkangmnkdaaGreatDoorRows.lean that lists a variable, with what it lists TIED to the program's text (the seventh form; the later family's looks); each row that meets fmt, with fmt's text TOLD by the authors' own Lean function (tested against real Go, not proved from fmt's source: count such statements apart). THE CARD IS WHAT COUNTS. Prove the row's statement (the work); the ties are given (YtmamgkangmnkdaaGreatDoorTie.lean); close each card by the builder's one call (the guide's Derived/Test/ToyasCard.lean, 'card_holds'). Laid BY PROGRAM, IN A SANDBOX (cutbox-door.mjs). By AI agents, Wed Nov 11 2026. No macro, syntax, notation, axiom, sorry.
-/
import Derived.Test.YtmamgkangmnkdaaGreatDoorRows
import GoSem.ClaimSeven
namespace Go.Proofs.YtmamgkangmnkdaaGreatDoor
namespace Rows

/-- THE TIED CARD OF 'intagliolaw23.BoardNil'. -/
def boardNilCard : Claim7 := { stood := { row := boardNilRow, standIns := [], harness := (true, "d82b0b0ab5ff95d6606f18ffd60f6f6d9ad28f5c15789a26fc039eb98361c6c6"), looks := true }, kinds := [], alts := [], laidByText := true, laidKinds := [.handle], laidTests := true, laidLooks := .later }
def BoardNilCardSaid : Prop := Claim7.holds Tryz.pinned (.plain (OpenSpec.ofChange boardNilSpec)) boardNilCard

/-- THE SECOND FORM's CARD OF 'intagliolaw23.BoardNil'. -/
def boardNilUptoCard : Claim7 := { stood := { row := boardNilUptoRow, standIns := [], harness := (true, "d82b0b0ab5ff95d6606f18ffd60f6f6d9ad28f5c15789a26fc039eb98361c6c6"), looks := true }, kinds := [], alts := [], laidByText := true, laidKinds := [.handle], laidTests := true, laidLooks := .later }
def BoardNilUptoCardSaid : Prop := Claim7.holds Tryz.pinned (.plain (OpenSpec.upto boardNilSpec)) boardNilUptoCard
end Rows
end Go.Proofs.YtmamgkangmnkdaaGreatDoor
