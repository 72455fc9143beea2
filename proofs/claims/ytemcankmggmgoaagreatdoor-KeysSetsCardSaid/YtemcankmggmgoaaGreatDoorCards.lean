/-
  DERIVED. GIVEN WITH THE SEED: THE CARDS: each row of YtemcankmggmgoaaGreatDoorRows.lean that lists a variable, with what it lists TIED to the program's text (the seventh form; the later family's looks); each row that meets fmt, with fmt's text TOLD by the authors' own Lean function (tested against real Go, not proved from fmt's source: count such statements apart). THE CARD IS WHAT COUNTS. Prove the row's statement (the work); the ties are given (YtemcankmggmgoaaGreatDoorTie.lean); close each card by the builder's one call (the guide's Derived/Test/ToyasCard.lean, 'card_holds'). Laid BY PROGRAM, IN A SANDBOX (cutbox-door.mjs). By AI agents, Wed Nov 11 2026. No macro, syntax, notation, axiom, sorry.
-/
import Derived.Test.YtemcankmggmgoaaGreatDoorRows
import GoSem.ClaimSeven
namespace Go.Proofs.YtemcankmggmgoaaGreatDoor
namespace Rows

/-- THE TIED CARD OF 'mintvaultlaw9.KeysSets'. -/
def keysSetsCard : Claim7 := { stood := { row := keysSetsRow, standIns := [], harness := (true, "f33c54b274903ff0019bd3f1ef3fd67a88c4c71d150a726e2b29a4fce0018227"), looks := false }, kinds := [], alts := [], laidByText := true, laidKinds := [.data], laidTests := true, laidLooks := .later }
def KeysSetsCardSaid : Prop := Claim7.holds Tryz.pinned (.plain (OpenSpec.ofChange keysSetsSpec)) keysSetsCard

/-- THE SECOND FORM's CARD OF 'mintvaultlaw9.KeysSets'. -/
def keysSetsUptoCard : Claim7 := { stood := { row := keysSetsUptoRow, standIns := [], harness := (true, "f33c54b274903ff0019bd3f1ef3fd67a88c4c71d150a726e2b29a4fce0018227"), looks := false }, kinds := [], alts := [], laidByText := true, laidKinds := [.data], laidTests := true, laidLooks := .later }
def KeysSetsUptoCardSaid : Prop := Claim7.holds Tryz.pinned (.plain (OpenSpec.upto keysSetsSpec)) keysSetsUptoCard
end Rows
end Go.Proofs.YtemcankmggmgoaaGreatDoor
