/-
  DERIVED. GIVEN WITH THE SEED: THE CARDS: each row of YtjhejbajkkehjaaGreatDoorRows.lean that lists a variable, with what it lists TIED to the program's text (the seventh form; the later family's looks); each row that meets fmt, with fmt's text TOLD by the authors' own Lean function (tested against real Go, not proved from fmt's source: count such statements apart). THE CARD IS WHAT COUNTS. Prove the row's statement (the work); the ties are given (YtjhejbajkkehjaaGreatDoorTie.lean); close each card by the builder's one call (the guide's Derived/Test/ToyasCard.lean, 'card_holds'). Laid BY PROGRAM, IN A SANDBOX (cutbox-door.mjs). By AI agents, Wed Nov 11 2026. No macro, syntax, notation, axiom, sorry.
-/
import Derived.Test.YtjhejbajkkehjaaGreatDoorRows
import GoSem.ClaimSeven
namespace Go.Proofs.YtjhejbajkkehjaaGreatDoor
namespace Rows

/-- THE TIED CARD OF 'minuterielaw11.BoardNil'. -/
def boardNilCard : Claim7 := { stood := { row := boardNilRow, standIns := [], harness := (true, "3b78c749d8b9945a2fee58a557692e723803c806262d24bcfafec5901f157cee"), looks := false }, kinds := [], alts := [], laidByText := true, laidKinds := [.data], laidTests := true, laidLooks := .later }
def BoardNilCardSaid : Prop := Claim7.holds Tryz.pinned (.plain (OpenSpec.ofChange boardNilSpec)) boardNilCard

/-- THE SECOND FORM's CARD OF 'minuterielaw11.BoardNil'. -/
def boardNilUptoCard : Claim7 := { stood := { row := boardNilUptoRow, standIns := [], harness := (true, "3b78c749d8b9945a2fee58a557692e723803c806262d24bcfafec5901f157cee"), looks := false }, kinds := [], alts := [], laidByText := true, laidKinds := [.data], laidTests := true, laidLooks := .later }
def BoardNilUptoCardSaid : Prop := Claim7.holds Tryz.pinned (.plain (OpenSpec.upto boardNilSpec)) boardNilUptoCard
end Rows
end Go.Proofs.YtjhejbajkkehjaaGreatDoor
