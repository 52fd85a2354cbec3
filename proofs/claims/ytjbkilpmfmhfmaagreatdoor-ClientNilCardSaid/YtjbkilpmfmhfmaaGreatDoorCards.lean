/-
  DERIVED. GIVEN WITH THE SEED: THE CARDS: each row of YtjbkilpmfmhfmaaGreatDoorRows.lean that lists a variable, with what it lists TIED to the program's text (the seventh form; the later family's looks); each row that meets fmt, with fmt's text TOLD by the authors' own Lean function (tested against real Go, not proved from fmt's source: count such statements apart). THE CARD IS WHAT COUNTS. Prove the row's statement (the work); the ties are given (YtjbkilpmfmhfmaaGreatDoorTie.lean); close each card by the builder's one call (the guide's Derived/Test/ToyasCard.lean, 'card_holds'). Laid BY PROGRAM, IN A SANDBOX (cutbox-door.mjs). By AI agents, Wed Nov 11 2026. No macro, syntax, notation, axiom, sorry.
-/
import Derived.Test.YtjbkilpmfmhfmaaGreatDoorRows
import GoSem.ClaimSeven
namespace Go.Proofs.YtjbkilpmfmhfmaaGreatDoor
namespace Rows

/-- THE TIED CARD OF 'intagliolaw21.ClientNil'. -/
def clientNilCard : Claim7 := { stood := { row := clientNilRow, standIns := [], harness := (true, "82371d76b47106da6afe65c9edba1c4924418b273d7d0793c799ce061b640728"), looks := true }, kinds := [], alts := [], laidByText := true, laidKinds := [.handle], laidTests := true, laidLooks := .later }
def ClientNilCardSaid : Prop := Claim7.holds Tryz.pinned (.plain (OpenSpec.ofChange clientNilSpec)) clientNilCard

/-- THE SECOND FORM's CARD OF 'intagliolaw21.ClientNil'. -/
def clientNilUptoCard : Claim7 := { stood := { row := clientNilUptoRow, standIns := [], harness := (true, "82371d76b47106da6afe65c9edba1c4924418b273d7d0793c799ce061b640728"), looks := true }, kinds := [], alts := [], laidByText := true, laidKinds := [.handle], laidTests := true, laidLooks := .later }
def ClientNilUptoCardSaid : Prop := Claim7.holds Tryz.pinned (.plain (OpenSpec.upto clientNilSpec)) clientNilUptoCard
end Rows
end Go.Proofs.YtjbkilpmfmhfmaaGreatDoor
