/-
  DERIVED. GIVEN WITH THE SEED: THE CARDS: each row of YtgkakddldobpkaaDoorRows.lean that lists a variable, with what it lists TIED to the program's text (the seventh form; the later family's looks); each row that meets fmt, with fmt's text TOLD by the authors' own Lean function (tested against real Go, not proved from fmt's source: count such statements apart). THE CARD IS WHAT COUNTS. Prove the row's statement (the work); the ties are given (YtgkakddldobpkaaDoorTie.lean); close each card by the builder's one call (the guide's Derived/Test/ToyasCard.lean, 'card_holds'). Laid BY PROGRAM, IN A SANDBOX (cutbox-door.mjs). By AI agents, Wed Nov 11 2026. No macro, syntax, notation, axiom, sorry.
-/
import Derived.Test.YtgkakddldobpkaaDoorRows
import GoSem.ClaimSeven
namespace Go.Proofs.YtgkakddldobpkaaDoor
namespace Rows

/-- THE TIED CARD OF 'mintvaultlaw8.TreeRoots'. -/
def treeRootsCard : Claim7 := { stood := { row := treeRootsRow, standIns := [], harness := (true, "2e8fc0b405d5d2a9782c594d49c15d976b6c929f30645223fdd2e0e8f88aa776"), looks := false }, kinds := [], alts := [], laidByText := true, laidKinds := [.data, .data], laidTests := true, laidLooks := .later }
def TreeRootsCardSaid : Prop := Claim7.holds Tryd.pinned (.plain (OpenSpec.ofChange treeRootsSpec)) treeRootsCard

/-- THE TIED CARD OF 'mintvaultlaw8.TreeTrue'. -/
def treeTrueCard : Claim7 := { stood := { row := treeTrueRow, standIns := [], harness := (true, "2e8fc0b405d5d2a9782c594d49c15d976b6c929f30645223fdd2e0e8f88aa776"), looks := false }, kinds := [], alts := [], laidByText := true, laidKinds := [.data, .data], laidTests := true, laidLooks := .later }
def TreeTrueCardSaid : Prop := Claim7.holds Tryd.pinned (.plain (OpenSpec.ofChange treeTrueSpec)) treeTrueCard

/-- THE TIED CARD OF 'mintvaultlaw9.KeysSplit'. -/
def keysSplitCard : Claim7 := { stood := { row := keysSplitRow, standIns := [], harness := (true, "2e8fc0b405d5d2a9782c594d49c15d976b6c929f30645223fdd2e0e8f88aa776"), looks := false }, kinds := [], alts := [], laidByText := true, laidKinds := [.data], laidTests := true, laidLooks := .later }
def KeysSplitCardSaid : Prop := Claim7.holds Tryd.pinned (.plain (OpenSpec.ofChange keysSplitSpec)) keysSplitCard

/-- THE SECOND FORM's CARD OF 'mintvaultlaw8.TreeRoots'. -/
def treeRootsUptoCard : Claim7 := { stood := { row := treeRootsUptoRow, standIns := [], harness := (true, "2e8fc0b405d5d2a9782c594d49c15d976b6c929f30645223fdd2e0e8f88aa776"), looks := false }, kinds := [], alts := [], laidByText := true, laidKinds := [.data, .data], laidTests := true, laidLooks := .later }
def TreeRootsUptoCardSaid : Prop := Claim7.holds Tryd.pinned (.plain (OpenSpec.upto treeRootsSpec)) treeRootsUptoCard

/-- THE SECOND FORM's CARD OF 'mintvaultlaw8.TreeTrue'. -/
def treeTrueUptoCard : Claim7 := { stood := { row := treeTrueUptoRow, standIns := [], harness := (true, "2e8fc0b405d5d2a9782c594d49c15d976b6c929f30645223fdd2e0e8f88aa776"), looks := false }, kinds := [], alts := [], laidByText := true, laidKinds := [.data, .data], laidTests := true, laidLooks := .later }
def TreeTrueUptoCardSaid : Prop := Claim7.holds Tryd.pinned (.plain (OpenSpec.upto treeTrueSpec)) treeTrueUptoCard

/-- THE SECOND FORM's CARD OF 'mintvaultlaw9.KeysSplit'. -/
def keysSplitUptoCard : Claim7 := { stood := { row := keysSplitUptoRow, standIns := [], harness := (true, "2e8fc0b405d5d2a9782c594d49c15d976b6c929f30645223fdd2e0e8f88aa776"), looks := false }, kinds := [], alts := [], laidByText := true, laidKinds := [.data], laidTests := true, laidLooks := .later }
def KeysSplitUptoCardSaid : Prop := Claim7.holds Tryd.pinned (.plain (OpenSpec.upto keysSplitSpec)) keysSplitUptoCard
end Rows
end Go.Proofs.YtgkakddldobpkaaDoor
