/-
  DERIVED. GIVEN WITH THE SEED: THE CARDS: each row of YtdadnajbdnbbdaaDoorRows.lean that lists a variable, with what it lists TIED to the program's text (the seventh form; the later family's looks); each row that meets fmt, with fmt's text TOLD by the authors' own Lean function (tested against real Go, not proved from fmt's source: count such statements apart). THE CARD IS WHAT COUNTS. Prove the row's statement (the work); the ties are given (YtdadnajbdnbbdaaDoorTie.lean); close each card by the builder's one call (the guide's Derived/Test/ToyasCard.lean, 'card_holds'). Laid BY PROGRAM, IN A SANDBOX (cutbox-door.mjs). By AI agents, Wed Nov 11 2026. No macro, syntax, notation, axiom, sorry.
-/
import Derived.Test.YtdadnajbdnbbdaaDoorRows
import GoSem.ClaimSeven
namespace Go.Proofs.YtdadnajbdnbbdaaDoor
namespace Rows

/-- THE TIED CARD OF 'mintvaultlaw4.WirePrints'. -/
def wirePrintsCard : Claim7 := { stood := { row := wirePrintsRow, standIns := [], harness := (true, "1a62c925fc0742cd9d41064f97172124cb8100db552c488c3f6af9a90886367d"), looks := true }, kinds := [], alts := [], laidByText := true, laidKinds := [.data, .pinned], laidTests := true, laidLooks := .later }
def WirePrintsCardSaid : Prop := Claim7.holds Tryd.pinned (.plain (OpenSpec.ofChange wirePrintsSpec)) wirePrintsCard

/-- THE SECOND FORM's CARD OF 'mintvaultlaw4.WirePrints'. -/
def wirePrintsUptoCard : Claim7 := { stood := { row := wirePrintsUptoRow, standIns := [], harness := (true, "1a62c925fc0742cd9d41064f97172124cb8100db552c488c3f6af9a90886367d"), looks := true }, kinds := [], alts := [], laidByText := true, laidKinds := [.data, .pinned], laidTests := true, laidLooks := .later }
def WirePrintsUptoCardSaid : Prop := Claim7.holds Tryd.pinned (.plain (OpenSpec.upto wirePrintsSpec)) wirePrintsUptoCard
end Rows
end Go.Proofs.YtdadnajbdnbbdaaDoor
