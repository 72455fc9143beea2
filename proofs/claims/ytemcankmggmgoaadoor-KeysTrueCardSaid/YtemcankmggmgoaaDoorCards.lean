/-
  DERIVED. GIVEN WITH THE SEED: THE CARDS: each row of YtemcankmggmgoaaDoorRows.lean that lists a variable, with what it lists TIED to the program's text (the seventh form; the later family's looks); each row that meets fmt, with fmt's text TOLD by the authors' own Lean function (tested against real Go, not proved from fmt's source: count such statements apart). THE CARD IS WHAT COUNTS. Prove the row's statement (the work); the ties are given (YtemcankmggmgoaaDoorTie.lean); close each card by the builder's one call (the guide's Derived/Test/ToyasCard.lean, 'card_holds'). Laid BY PROGRAM, IN A SANDBOX (cutbox-door.mjs). By AI agents, Wed Nov 11 2026. No macro, syntax, notation, axiom, sorry.
-/
import Derived.Test.YtemcankmggmgoaaDoorRows
import GoSem.ClaimSeven
namespace Go.Proofs.YtemcankmggmgoaaDoor
namespace Rows

/-- THE TIED CARD OF 'mintvaultlaw9.KeysTrue'. -/
def keysTrueCard : Claim7 := { stood := { row := keysTrueRow, standIns := [], harness := (true, "c8c70793bd560d0c32ab4d93c6f5412658a5663556214cb9a9c098647e2c5bbb"), looks := false }, kinds := [], alts := [], laidByText := true, laidKinds := [.data], laidTests := true, laidLooks := .later }
def KeysTrueCardSaid : Prop := Claim7.holds Tryd.pinned (.plain (OpenSpec.ofChange keysTrueSpec)) keysTrueCard

/-- THE SECOND FORM's CARD OF 'mintvaultlaw9.KeysTrue'. -/
def keysTrueUptoCard : Claim7 := { stood := { row := keysTrueUptoRow, standIns := [], harness := (true, "c8c70793bd560d0c32ab4d93c6f5412658a5663556214cb9a9c098647e2c5bbb"), looks := false }, kinds := [], alts := [], laidByText := true, laidKinds := [.data], laidTests := true, laidLooks := .later }
def KeysTrueUptoCardSaid : Prop := Claim7.holds Tryd.pinned (.plain (OpenSpec.upto keysTrueSpec)) keysTrueUptoCard
end Rows
end Go.Proofs.YtemcankmggmgoaaDoor
